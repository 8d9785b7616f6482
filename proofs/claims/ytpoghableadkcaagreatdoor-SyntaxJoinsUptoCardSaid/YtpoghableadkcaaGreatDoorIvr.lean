/- The walk of ivar (printed by mkdecl.py). -/
import Derived.Test.YtpoghableadkcaaGreatDoorM12
import Derived.Deep.DeepCutAuto
namespace Go.Proofs.YtpoghableadkcaaGreatDoor
open Go.RowKit
set_option linter.unusedVariables false
set_option linter.unusedSimpArgs false

theorem takesFn {w:World} {p:Nat} {vl:Value} {E:Env} {i:Nat} (h:Par w p vl E i) {b:Nat} (l:List Bs) (hl:Holds w b 9 (l.map strV)) (hs:l.length ≤ 65536) {q:Bool} (hq:sees E i l=q):
  Calls Tryz.prog 18 #[.pointer (some ⟨p,0,none⟩),.slice (some ⟨b,0,none⟩) l.length l.length] w fun e w'=>e=.returned (.bool q)∧Par w' p vl E (if q then i + 1 else i)∧Fp p w w':=by
 cases q with
 | true=>exact (takes_yes h l hl hs hq).mono fun e w' ⟨h1,h2,h3⟩=>⟨h1,h2,h3⟩
 | false=>exact (takes_no h l hl hs hq).mono fun e w' ⟨h1,h2⟩=>⟨h1,h.belowAll h2,Fp.of_below h2⟩
/-- What follows a variable's name and size. -/
def ivarRest (E:Env) (f:Nat) (n:Bs) (p:Ast × Bool) (k:Nat):R DVar:=
 if sees E k [[61]] then
  if sees E (k + 1) [[91]] then
   (expr E f 0 (k + 2)).bd fun e m=>(need E [93] m).bd fun _ m=>(need E [111,102] m).bd fun _ m=>(need E [123] m).bd fun _ m=>
   (many E (field E) f m).bd fun l m=>(need E [125] m).bd fun _ m=>.ok ⟨n,p.2,p.1,false,e,true,l⟩ m
  else (expr E f 0 (k + 1)).bd fun e m=>.ok ⟨n,p.2,p.1,true,e,false,[]⟩ m
 else .ok ⟨n,p.2,p.1,false,.zero,false,[]⟩ k
theorem ivar_eq {E:Env} {f i:Nat}:ivar E f i=(pid E i).bd fun n j=>(if sees E j [[91]] then (expr E f 0 (j + 1)).bd fun a k=>(need E [93] k).bd fun _ m=>R.ok (a,true) m else R.ok (Ast.zero,false) j).bd (ivarRest E f n):=rfl
/-- The end of ivar. -/
theorem dv_end {fn:Func} {s:Nat} (hf:fn.results=#[.cell s 108]) {w W W':World} {p j b:Nat} {P:Nat→Prop} {vl:Value} {E:Env} {a:Act} {x0 x1 x2 x3 x4 x5 x6 x7 x8 x9 x10 x11 x12 x13 x14 x15 x16 x17 x18 x19 x20 x21 x22:Value} {ys:List Value} {d:DVar} {r:R DVar}
  (hs:a.tmps[s]?.getD undef=.pointer (some ⟨b,0,none⟩)) (hd:a.defers=[]) (hH:Holds W b 108 ys) (hy:ys.length=23)
  (hv:DvF P W d [x0,x1,x2,x3,x4,x5,x6,x7,x8,x9,x10,x11,x12,x13,x14,x15,x16,x17,x18,x19,x20,x21,x22]) (hnb:¬ P b) (hP:∀ k,P k→w.heap.size ≤ k) (hw:w.heap.size ≤ b) (hp:p < w.heap.size) (HP:Par W p vl E j) (HF:Fp p w W) (hR:r=.ok d j) (hW:W'=setR W b 0 [x0,x1,x2,x3,x4,x5,x6,x7,x8,x9,x10,x11,x12,x13,x14,x15,x16,x17,x18,x19,x20,x21,x22]):
  bodyPost Tryz.prog fn (Out p vl E w (DvV (From w.heap.size)) r) Exit.ret a W':=by
 subst hW
 have hh:=Holds.setR [x0,x1,x2,x3,x4,x5,x6,x7,x8,x9,x10,x11,x12,x13,x14,x15,x16,x17,x18,x19,x20,x21,x22] 0 hH
 rw [putR_all hy] at hh
 refine bodyPost_ret (outBox hf hh hs _ Tryz.underlying108 rfl sz_DVar) hd ?_
 rw [hR]
 exact ⟨_,rfl,⟨_,rfl,(hv.up (Keep.setR hnb _ _)).mono (fun k hk _=>hP k hk)⟩,Par.setR (by omega) _ _ HP,Fp.setR hw _ _ HF⟩

set_option maxHeartbeats 4000000 in
set_option maxRecDepth 100000 in
theorem ivarFn {E:Env} {f:Nat} {w:World} {p i:Nat} {vl:Value} (hP:Par w p vl E i) (hne:ivar E f i ≠ .out):
  Calls Tryz.prog 107 #[.pointer (some ⟨p,0,none⟩)] w (Out p vl E w (DvV (From w.heap.size)) (ivar E f i)):=by
 have hp1:=hP.lt
 have hfew:=hP.few
 have hi2:i ≤ 65536:=Nat.le_trans hP.le hfew
 obtain ⟨Rr,hRr⟩:∃ Rr,ivar E f i=Rr:=⟨_,rfl⟩
 rw [hRr] at hne ⊢
 have HNE:=Lib.hid hne
 have hmf:∀ (fn:Fn) (first cap:Array Value) (w:World),(Instr.makeFunc fn first cap).run Tryz.prog w=.ok (.func fn first cap) w:=fun _ _ _ _=>rfl
 rw [ivar_eq] at hRr
 have HPq:=Lib.hid hP
 have HFq:=Lib.hid (Fp.refl p w)
 clear hP hne
 have hba:Below w.heap.size w (w.alloc (.cells #[.pointer (some ⟨p,0,none⟩)] 59)):=(Below.refl _ _).alloc (Nat.le_refl _) _
 have hbn:=Holds.new w 59 #[.pointer (some ⟨p,0,none⟩)]
 have HP11:=Lib.hid (HPq.out.belowAll hba)
 have HF11:=Lib.hid (HFq.out.bel hba)
 clear HPq HFq
 have HX11:=Lib.hid hbn
 clear hbn
 clear hba
 have hba:Below (w.alloc (.cells #[.pointer (some ⟨p,0,none⟩)] 59)).heap.size (w.alloc (.cells #[.pointer (some ⟨p,0,none⟩)] 59)) ((w.alloc (.cells #[.pointer (some ⟨p,0,none⟩)] 59)).alloc (.cells #[.string ⟨#[]⟩,.bool false,.int .i64 0,.int .i64 0,.string ⟨#[]⟩,.string ⟨#[]⟩,.slice none 0 0,.slice none 0 0,.slice none 0 0,.slice none 0 0,.slice none 0 0,.bool false,.int .i64 0,.int .i64 0,.string ⟨#[]⟩,.string ⟨#[]⟩,.slice none 0 0,.slice none 0 0,.slice none 0 0,.slice none 0 0,.slice none 0 0,.bool false,.slice none 0 0] 108)):=(Below.refl _ _).alloc (Nat.le_refl _) _
 have hbn:=Holds.new (w.alloc (.cells #[.pointer (some ⟨p,0,none⟩)] 59)) 108 #[.string ⟨#[]⟩,.bool false,.int .i64 0,.int .i64 0,.string ⟨#[]⟩,.string ⟨#[]⟩,.slice none 0 0,.slice none 0 0,.slice none 0 0,.slice none 0 0,.slice none 0 0,.bool false,.int .i64 0,.int .i64 0,.string ⟨#[]⟩,.string ⟨#[]⟩,.slice none 0 0,.slice none 0 0,.slice none 0 0,.slice none 0 0,.slice none 0 0,.bool false,.slice none 0 0]
 rw [show (w.alloc (.cells #[.pointer (some ⟨p,0,none⟩)] 59)).heap.size=w.heap.size + 1 by simp [World.setCell]] at hbn
 have HP12:=Lib.hid (HP11.out.belowAll hba)
 have HF12:=Lib.hid (HF11.out.bel hba)
 have HX12:=Lib.hid (HX11.out.belowAll hba)
 clear HP11 HF11 HX11
 have HR12:=Lib.hid hbn
 clear hbn
 clear hba
 go_enter Tryz.func107,Tryz.ntmps107
 have y14:=HX12.out.cell
 have HC':=idFn HP12.out
 have HCx:=Lib.hid HC'
 clear HC'
 have HQ:=Lib.hid hRr
 clear hRr
 go_wp2_with (fail)
 clear y14
 have hRr:=HQ.out
 clear HQ
 have HC':=HCx.out
 clear HCx
 cases h1:pid E i with
 | out=>exact absurd h1 pid_ne
 | bad c a=>
  rw [h1] at HC' hRr
  refine HC'.mono ?_
  rintro e wz ⟨rfl,hF⟩
  rw [← (show _=_ from hRr)]
  exact ⟨rfl,rfl,HF12.out.trans hF⟩
 | ok s j2=>
  rw [h1] at HC' hRr
  have HC:=Lib.hid HC'
  clear h1 HC' 
  try simp only [bd_ok] at hRr
  refine (HC.out).mono ?_
  rintro e w13 ⟨vw13,rfl,hv,hPq,hFq⟩
  have HP13:=Lib.hid hPq
  have HF13:=Lib.hid (HF12.out.trans hFq)
  have HX13:=Lib.hid (HX12.out.fp hFq (by omega))
  have HR13:=Lib.hid (HR12.out.fp hFq (by omega))
  clear HP12 HF12 HX12 HR12
  clear hPq hFq HC
  obtain rfl:=hv
  have hszD:w.heap.size + 1 < w13.heap.size:=HR13.out.lt
  have hba:Below w13.heap.size w13 (w13.alloc (.cells #[.string ⟨#[]⟩,.bool false,.int .i64 0,.int .i64 0,.string ⟨#[]⟩,.string ⟨#[]⟩,.slice none 0 0,.slice none 0 0,.slice none 0 0,.slice none 0 0,.slice none 0 0,.bool false,.int .i64 0,.int .i64 0,.string ⟨#[]⟩,.string ⟨#[]⟩,.slice none 0 0,.slice none 0 0,.slice none 0 0,.slice none 0 0,.slice none 0 0,.bool false,.slice none 0 0] 108)):=(Below.refl _ _).alloc (Nat.le_refl _) _
  have hbn:=Holds.new w13 108 #[.string ⟨#[]⟩,.bool false,.int .i64 0,.int .i64 0,.string ⟨#[]⟩,.string ⟨#[]⟩,.slice none 0 0,.slice none 0 0,.slice none 0 0,.slice none 0 0,.slice none 0 0,.bool false,.int .i64 0,.int .i64 0,.string ⟨#[]⟩,.string ⟨#[]⟩,.slice none 0 0,.slice none 0 0,.slice none 0 0,.slice none 0 0,.slice none 0 0,.bool false,.slice none 0 0]
  have HP15:=Lib.hid (HP13.out.belowAll hba)
  have HF15:=Lib.hid (HF13.out.bel hba)
  have HX15:=Lib.hid (HX13.out.belowAll hba)
  have HR15:=Lib.hid (HR13.out.belowAll hba)
  clear HP13 HF13 HX13 HR13
  have HD15:=Lib.hid hbn
  clear hbn
  clear hba
  have hszD0:p < w13.heap.size:=by omega
  have y17:=HX15.out.cell
  have HQ:=Lib.hid hRr
  clear hRr
  go_wp2_with (refine wpList_storeB rfl 108 _ _ rfl (w13.heap.size) 0 [.string ⟨s.toArray⟩,.bool false,.int .i64 0,.int .i64 0,.string ⟨#[]⟩,.string ⟨#[]⟩,.slice none 0 0,.slice none 0 0,.slice none 0 0,.slice none 0 0,.slice none 0 0,.bool false,.int .i64 0,.int .i64 0,.string ⟨#[]⟩,.string ⟨#[]⟩,.slice none 0 0,.slice none 0 0,.slice none 0 0,.slice none 0 0,.slice none 0 0,.bool false,.slice none 0 0] rfl rfl HD15.out (by simp) sz_DVar (by simp [Value.oneCell']) ?_)
  refine Named.mk (fun w16 hW16=>?_)
  have hRr:=HQ.out
  clear HQ y17
  obtain ⟨L16,hL16⟩:∃ L:List Value,L=[.string ⟨s.toArray⟩,.bool false,.int .i64 0,.int .i64 0,.string ⟨#[]⟩,.string ⟨#[]⟩,.slice none 0 0,.slice none 0 0,.slice none 0 0,.slice none 0 0,.slice none 0 0,.bool false,.int .i64 0,.int .i64 0,.string ⟨#[]⟩,.string ⟨#[]⟩,.slice none 0 0,.slice none 0 0,.slice none 0 0,.slice none 0 0,.slice none 0 0,.bool false,.slice none 0 0]:=⟨_,rfl⟩
  rw [← hL16] at hW16
  have HP16:Hid (Par w16 p vl E (j2)):=by rw [hW16];exact Par.setR (by omega) L16 0 HP15.out
  have HF16:Hid (Fp p w w16):=by rw [hW16];exact Fp.setR (by omega) L16 0 HF15.out
  have hb16:=Holds.farR (b':=w13.heap.size) (by omega) L16 0 HX15.out
  rw [← hW16] at hb16
  have HX16:=Lib.hid hb16
  clear hb16
  have hb16:=Holds.farR (b':=w13.heap.size) (by omega) L16 0 HR15.out
  rw [← hW16] at hb16
  have HR16:=Lib.hid hb16
  clear hb16
  have hb16:=HD15.out.stored hW16 (by rw [hL16];simp)
  rw [hL16] at hb16
  have HD16:Hid (Holds w16 (w13.heap.size) 108 [.string ⟨s.toArray⟩,.bool false,.int .i64 0,.int .i64 0,.string ⟨#[]⟩,.string ⟨#[]⟩,.slice none 0 0,.slice none 0 0,.slice none 0 0,.slice none 0 0,.slice none 0 0,.bool false,.int .i64 0,.int .i64 0,.string ⟨#[]⟩,.string ⟨#[]⟩,.slice none 0 0,.slice none 0 0,.slice none 0 0,.slice none 0 0,.slice none 0 0,.bool false,.slice none 0 0]):=hb16
  clear hb16
  clear hW16 hL16 HP15 HF15 HX15 HR15 HD15
  have hszD1:w13.heap.size < w16.heap.size:=HD16.out.lt
  have y18:=HX16.out.cell
  have hL:=Holds.new w16 9 #[.string ⟨#[91]⟩]
  have HL:=Lib.hid hL
  clear hL
  have hba:Below w16.heap.size w16 (w16.alloc (.cells #[.string ⟨#[91]⟩] 9)):=(Below.refl _ _).alloc (Nat.le_refl _) _
  have HP19:=Lib.hid (HP16.out.belowAll hba)
  have HF19:=Lib.hid (HF16.out.bel hba)
  have HX19:=Lib.hid (HX16.out.belowAll hba)
  have HR19:=Lib.hid (HR16.out.belowAll hba)
  have HD19:=Lib.hid (HD16.out.belowAll hba)
  clear HP16 HF16 HX16 HR16 HD16
  clear hba
  obtain ⟨q1,hq1⟩:∃ b:Bool,sees E j2 [[91]]=b:=⟨_,rfl⟩
  have Hq1:=Lib.hid hq1
  have HT:=Lib.hid (takesFn HP19.out [[91]] HL.out (by simp) hq1)
  clear HL hq1
  have HQ:=Lib.hid hRr
  clear hRr
  go_wp2_with (fail)
  clear y18
  have hRr:=HQ.out
  clear HQ
  refine (HT.out).mono ?_
  rintro e w20 ⟨rfl,hPq,hFq⟩
  have HP20:=Lib.hid hPq
  have HF20:=Lib.hid (HF19.out.trans hFq)
  have HX20:=Lib.hid (HX19.out.fp hFq (by omega))
  have HR20:=Lib.hid (HR19.out.fp hFq (by omega))
  have HD20:=Lib.hid (HD19.out.fp hFq (by omega))
  clear HP19 HF19 HX19 HR19 HD19
  clear hPq hFq HT
  have hszD2:w13.heap.size < w20.heap.size:=HD20.out.lt
  have y22:=HX20.out.cell
  have HQ:=Lib.hid hRr
  clear hRr
  go_wp2_with (refine wpList_store1 rfl 4 _ _ rfl (w13.heap.size) 1 (.bool q1) rfl rfl HD20.out (by simp) sz_bool rfl rfl ?_)
  refine Named.mk (fun w21 hW21=>?_)
  have hRr:=HQ.out
  clear HQ y22
  obtain ⟨L21,hL21⟩:∃ L:List Value,L=[.bool q1]:=⟨_,rfl⟩
  rw [← hL21] at hW21
  have HP21:Hid (Par w21 p vl E ((if q1 then j2 + 1 else j2))):=by rw [hW21];exact Par.setR (by omega) L21 1 HP20.out
  have HF21:Hid (Fp p w w21):=by rw [hW21];exact Fp.setR (by omega) L21 1 HF20.out
  have hb21:=Holds.farR (b':=w13.heap.size) (by omega) L21 1 HX20.out
  rw [← hW21] at hb21
  have HX21:=Lib.hid hb21
  clear hb21
  have hb21:=Holds.farR (b':=w13.heap.size) (by omega) L21 1 HR20.out
  rw [← hW21] at hb21
  have HR21:=Lib.hid hb21
  clear hb21
  have hb21:=HD20.out.stored hW21 (by rw [hL21];simp)
  rw [hL21] at hb21
  have HD21:Hid (Holds w21 (w13.heap.size) 108 [.string ⟨s.toArray⟩,.bool q1,.int .i64 0,.int .i64 0,.string ⟨#[]⟩,.string ⟨#[]⟩,.slice none 0 0,.slice none 0 0,.slice none 0 0,.slice none 0 0,.slice none 0 0,.bool false,.int .i64 0,.int .i64 0,.string ⟨#[]⟩,.string ⟨#[]⟩,.slice none 0 0,.slice none 0 0,.slice none 0 0,.slice none 0 0,.slice none 0 0,.bool false,.slice none 0 0]):=hb21
  clear hb21
  clear hW21 hL21 HP20 HF20 HX20 HR20 HD20
  have y23:=HX21.out.cell
  have y24:=HD21.out.cell
  have y25:=HD21.out.free
  have HQ:=Lib.hid hRr
  clear hRr
  go_upto_if 12 with (fail)
  clear y23 y24 y25
  have hRr:=HQ.out
  clear HQ
  rw [Hq1.out] at hRr
  have HR1:=Lib.hid hRr
  clear hRr
  go_cut [1,2,3] (fun s1 s2 s3 wx=>s1=.pointer (some ⟨w.heap.size,0,none⟩)∧s2=.pointer (some ⟨w.heap.size + 1,0,none⟩)∧s3=.pointer (some ⟨w13.heap.size,0,none⟩)∧∃ (x:Ast) (j4:Nat) (xa1:Option Addr) (xn1 xc1:Nat) (xa2:Option Addr) (xn2 xc2:Nat) (xa3:Option Addr) (xn3 xc3:Nat) (xa4:Option Addr) (xn4 xc4:Nat) (xa5:Option Addr) (xn5 xc5:Nat),Hid (ivarRest E f s (x,q1) j4=Rr)∧Hid (Holds wx w13.heap.size 108 [.string ⟨s.toArray⟩,.bool q1,.int .i64 (x.kind:Int),.int .i64 x.n,.string ⟨x.name.toArray⟩,.string ⟨x.label.toArray⟩,.slice xa1 xn1 xc1,.slice xa2 xn2 xc2,.slice xa3 xn3 xc3,.slice xa4 xn4 xc4,.slice xa5 xn5 xc5,.bool false,.int .i64 0,.int .i64 0,.string ⟨#[]⟩,.string ⟨#[]⟩,.slice none 0 0,.slice none 0 0,.slice none 0 0,.slice none 0 0,.slice none 0 0,.bool false,.slice none 0 0])∧Hid (AstF (fun k=>w.heap.size + 2 ≤ k∧k ≠ w13.heap.size) wx x (.slice xa1 xn1 xc1) (.slice xa2 xn2 xc2) (.slice xa3 xn3 xc3) (.slice xa4 xn4 xc4) (.slice xa5 xn5 xc5))∧Hid (Holds wx w.heap.size 59 [.pointer (some ⟨p,0,none⟩)])∧Hid (Holds wx (w.heap.size + 1) 108 [.string ⟨#[]⟩,.bool false,.int .i64 0,.int .i64 0,.string ⟨#[]⟩,.string ⟨#[]⟩,.slice none 0 0,.slice none 0 0,.slice none 0 0,.slice none 0 0,.slice none 0 0,.bool false,.int .i64 0,.int .i64 0,.string ⟨#[]⟩,.string ⟨#[]⟩,.slice none 0 0,.slice none 0 0,.slice none 0 0,.slice none 0 0,.slice none 0 0,.bool false,.slice none 0 0])∧Hid (Par wx p vl E j4)∧Hid (Fp p w wx))
  case first=>
   cases q1 with
   | true=>
    as_aux_lemma=>
     have hRr:=HR1.out
     rw [if_pos rfl,bd_bd] at hRr
     clear HR1
     have hpn:=HP21.out
     rw [if_pos rfl] at hpn
     have HPn:=Lib.hid hpn
     have HFn:=HF21
     have HXn:=HX21
     have HRn:=HR21
     have HDn:=HD21
     clear hpn HP21 HF21 HX21 HR21 HD21
     have hszP:w13.heap.size < w21.heap.size:=HDn.out.lt
     have y27:=HXn.out.cell
     have HC':=(exprOk E f).expr (lvl:=0) HPn.out (by omega) (fun h=>by rw [h] at hRr;exact HNE.out hRr.symm)
     have HCx:=Lib.hid HC'
     clear HC'
     have HQ:=Lib.hid hRr
     clear hRr
     go_wp2_with (fail)
     clear y27
     have hRr:=HQ.out
     clear HQ
     have HC':=HCx.out
     clear HCx
     cases h1:expr E f 0 (j2 + 1) with
     | out=>exact absurd h1 (fun h=>by rw [h] at hRr;exact HNE.out hRr.symm)
     | bad c a=>
      rw [h1] at HC' hRr
      refine HC'.mono ?_
      rintro e wz ⟨rfl,hF⟩
      rw [← (show _=_ from hRr)]
      exact ⟨rfl,rfl,HFn.out.trans hF⟩
     | ok x j3=>
      rw [h1] at HC' hRr
      have HC:=Lib.hid HC'
      clear h1 HC' 
      try simp only [bd_ok] at hRr
      refine (HC.out).mono ?_
      rintro e w26 ⟨vw26,rfl,⟨vn,vi,vh,vk,va,rfl,hvx⟩,hPq,hFq⟩
      obtain ⟨xa1,xn1,xc1,xa2,xn2,xc2,xa3,xn3,xc3,xa4,xn4,xc4,xa5,xn5,xc5,rfl,rfl,rfl,rfl,rfl⟩:=hvx.forms
      unfold Ast.val
      have HP26:=Lib.hid hPq
      have HF26:=Lib.hid (HFn.out.trans hFq)
      have HX26:=Lib.hid (HXn.out.fp hFq (by omega))
      have HR26:=Lib.hid (HRn.out.fp hFq (by omega))
      have HD26:=Lib.hid (HDn.out.fp hFq (by omega))
      clear HPn HFn HXn HRn HDn
      clear hPq hFq HC
      have HVx26:=Lib.hid hvx
      clear hvx
      have hv2:=HVx26.out.mono (Q:=fun k=>w.heap.size + 2 ≤ k∧k ≠ w13.heap.size) (fun k hk hs=>by have h:_ ≤ k:=hk;exact ⟨by omega,by omega⟩)
      clear HVx26
      have HVx26:=Lib.hid hv2
      clear hv2
      have y29:=HX26.out.cell
      have HQ:=Lib.hid hRr
      clear hRr
      go_wp2_with (refine wpList_storeB rfl 41 _ _ rfl (w13.heap.size) 2 [.int .i64 (x.kind:Int),.int .i64 x.n,.string ⟨x.name.toArray⟩,.string ⟨x.label.toArray⟩,.slice xa1 xn1 xc1,.slice xa2 xn2 xc2,.slice xa3 xn3 xc3,.slice xa4 xn4 xc4,.slice xa5 xn5 xc5] rfl rfl HD26.out (by simp) sz_Ast (by simp [Value.oneCell']) ?_)
      refine Named.mk (fun w28 hW28=>?_)
      have hRr:=HQ.out
      clear HQ y29
      obtain ⟨L28,hL28⟩:∃ L:List Value,L=[.int .i64 (x.kind:Int),.int .i64 x.n,.string ⟨x.name.toArray⟩,.string ⟨x.label.toArray⟩,.slice xa1 xn1 xc1,.slice xa2 xn2 xc2,.slice xa3 xn3 xc3,.slice xa4 xn4 xc4,.slice xa5 xn5 xc5]:=⟨_,rfl⟩
      rw [← hL28] at hW28
      have HP28:Hid (Par w28 p vl E (j3)):=by rw [hW28];exact Par.setR (by omega) L28 2 HP26.out
      have HF28:Hid (Fp p w w28):=by rw [hW28];exact Fp.setR (by omega) L28 2 HF26.out
      have hb28:=Holds.farR (b':=w13.heap.size) (by omega) L28 2 HX26.out
      rw [← hW28] at hb28
      have HX28:=Lib.hid hb28
      clear hb28
      have hb28:=Holds.farR (b':=w13.heap.size) (by omega) L28 2 HR26.out
      rw [← hW28] at hb28
      have HR28:=Lib.hid hb28
      clear hb28
      have hb28:=HD26.out.stored hW28 (by rw [hL28];simp)
      rw [hL28] at hb28
      have HD28:Hid (Holds w28 (w13.heap.size) 108 [.string ⟨s.toArray⟩,.bool true,.int .i64 (x.kind:Int),.int .i64 x.n,.string ⟨x.name.toArray⟩,.string ⟨x.label.toArray⟩,.slice xa1 xn1 xc1,.slice xa2 xn2 xc2,.slice xa3 xn3 xc3,.slice xa4 xn4 xc4,.slice xa5 xn5 xc5,.bool false,.int .i64 0,.int .i64 0,.string ⟨#[]⟩,.string ⟨#[]⟩,.slice none 0 0,.slice none 0 0,.slice none 0 0,.slice none 0 0,.slice none 0 0,.bool false,.slice none 0 0]):=hb28
      clear hb28
      have hb28:=HVx26.out.up (Keep.setR (b:=w13.heap.size) (fun h=>h.2 rfl) L28 2)
      rw [← hW28] at hb28
      have HVx28:=Lib.hid hb28
      clear hb28
      clear hW28 hL28 HP26 HF26 HX26 HR26 HD26 HVx26
      have y31:=HX28.out.cell
      have HC':=needFn HP28.out [93]
      have HCx:=Lib.hid HC'
      clear HC'
      have HQ:=Lib.hid hRr
      clear hRr
      go_wp2_with (fail)
      clear y31
      have hRr:=HQ.out
      clear HQ
      have HC':=HCx.out
      clear HCx
      cases h1:need E [93] j3 with
      | out=>exact absurd h1 need_ne
      | bad c a=>
       rw [h1] at HC' hRr
       refine HC'.mono ?_
       rintro e wz ⟨rfl,hF⟩
       rw [← (show _=_ from hRr)]
       exact ⟨rfl,rfl,HF28.out.trans hF⟩
      | ok u j4=>
       rw [h1] at HC' hRr
       have HC:=Lib.hid HC'
       clear h1 HC' 
       try simp only [bd_ok] at hRr
       refine (HC.out).mono ?_
       rintro e w30 ⟨vw30,rfl,hv,hPq,hFq⟩
       have HP30:=Lib.hid hPq
       have HF30:=Lib.hid (HF28.out.trans hFq)
       have HX30:=Lib.hid (HX28.out.fp hFq (by omega))
       have HR30:=Lib.hid (HR28.out.fp hFq (by omega))
       have HD30:=Lib.hid (HD28.out.fp hFq (by omega))
       have HVx30:=Lib.hid (HVx28.out.up (Keep.of_fp hFq (by show ¬ _;omega)))
       clear HP28 HF28 HX28 HR28 HD28 HVx28
       clear hPq hFq HC
       obtain rfl:=hv
       have HZ:=Lib.hid hRr
       clear hRr
       go_wp2_with (fail)
       go_meet
       case rel=>exact ⟨rfl,rfl,rfl,x,_,_,_,_,_,_,_,_,_,_,_,_,_,_,_,_,HZ.out,HD30,HVx30,HX30,HR30,HP30,HF30⟩
   | false=>
    have hRr:=HR1.out
    rw [if_neg (by decide)] at hRr
    simp only [R.bd] at hRr
    have HZ:=Lib.hid hRr
    have hpn:=HP21.out
    rw [if_neg (by decide)] at hpn
    have HPn:=Lib.hid hpn
    clear hRr hpn HR1
    go_wp2_with (fail)
    go_meet
    case rel=>exact ⟨rfl,rfl,rfl,.zero,_,_,_,_,_,_,_,_,_,_,_,_,_,_,_,_,HZ.out,HD21,AstF.zero,HX21,HR21,HPn,HF21⟩
  case rest=>
   as_aux_lemma=>
    obtain ⟨rfl,rfl,rfl,x,j4,xa1,xn1,xc1,xa2,xn2,xc2,xa3,xn3,xc3,xa4,xn4,xc4,xa5,xn5,xc5,HR1,HDc,HVxc,HXc,HRc,HPc,HFc⟩:=hcut
    have hRr:=HR1.out
    clear HR1 HP21 HF21 HX21 HR21 HD21
    unfold ivarRest at hRr
    dsimp only at hRr
    have hszC:w13.heap.size < wc.heap.size:=HDc.out.lt
    have hj4:j4 ≤ 65536:=Nat.le_trans HPc.out.le HPc.out.few
    have y32:=HXc.out.cell
    have hL:=Holds.new wc 9 #[.string ⟨#[61]⟩]
    have HL:=Lib.hid hL
    clear hL
    have hba:Below wc.heap.size wc (wc.alloc (.cells #[.string ⟨#[61]⟩] 9)):=(Below.refl _ _).alloc (Nat.le_refl _) _
    have HP33:=Lib.hid (HPc.out.belowAll hba)
    have HF33:=Lib.hid (HFc.out.bel hba)
    have HD33:=Lib.hid (HDc.out.belowAll hba)
    have HX33:=Lib.hid (HXc.out.belowAll hba)
    have HR33:=Lib.hid (HRc.out.belowAll hba)
    have HVx33:=Lib.hid (HVxc.out.up (Keep.below hba))
    clear HPc HFc HDc HXc HRc HVxc
    clear hba
    cases hs:sees E j4 [[61]] with
    | true=>
     rw [if_pos hs] at hRr
     have HT:=Lib.hid (takes_yes HP33.out [[61]] HL.out (by simp) hs)
     clear hs HL
     have HQ:=Lib.hid hRr
     clear hRr
     go_wp2_with (fail)
     clear y32
     have hRr:=HQ.out
     clear HQ
     refine (HT.out).mono ?_
     rintro e w34 ⟨rfl,hPq,hFq⟩
     have HP34:=Lib.hid hPq
     have HF34:=Lib.hid (HF33.out.trans hFq)
     have HD34:=Lib.hid (HD33.out.fp hFq (by omega))
     have HX34:=Lib.hid (HX33.out.fp hFq (by omega))
     have HR34:=Lib.hid (HR33.out.fp hFq (by omega))
     have HVx34:=Lib.hid (HVx33.out.up (Keep.of_fp hFq (by show ¬ _;omega)))
     clear HP33 HF33 HD33 HX33 HR33 HVx33
     clear hPq hFq HT
     have y35:=HX34.out.cell
     have hL:=Holds.new w34 9 #[.string ⟨#[91]⟩]
     have HL:=Lib.hid hL
     clear hL
     have hba:Below w34.heap.size w34 (w34.alloc (.cells #[.string ⟨#[91]⟩] 9)):=(Below.refl _ _).alloc (Nat.le_refl _) _
     have HP36:=Lib.hid (HP34.out.belowAll hba)
     have HF36:=Lib.hid (HF34.out.bel hba)
     have HD36:=Lib.hid (HD34.out.belowAll hba)
     have HX36:=Lib.hid (HX34.out.belowAll hba)
     have HR36:=Lib.hid (HR34.out.belowAll hba)
     have HVx36:=Lib.hid (HVx34.out.up (Keep.below hba))
     clear HP34 HF34 HD34 HX34 HR34 HVx34
     clear hba
     cases hs:sees E (j4 + 1) [[91]] with
     | true=>
      rw [if_pos hs] at hRr
      have HT:=Lib.hid (takes_yes HP36.out [[91]] HL.out (by simp) hs)
      clear hs HL
      have HQ:=Lib.hid hRr
      clear hRr
      go_wp2_with (fail)
      clear y35
      have hRr:=HQ.out
      clear HQ
      refine (HT.out).mono ?_
      rintro e w37 ⟨rfl,hPq,hFq⟩
      have HP37:=Lib.hid hPq
      have HF37:=Lib.hid (HF36.out.trans hFq)
      have HD37:=Lib.hid (HD36.out.fp hFq (by omega))
      have HX37:=Lib.hid (HX36.out.fp hFq (by omega))
      have HR37:=Lib.hid (HR36.out.fp hFq (by omega))
      have HVx37:=Lib.hid (HVx36.out.up (Keep.of_fp hFq (by show ¬ _;omega)))
      clear HP36 HF36 HD36 HX36 HR36 HVx36
      clear hPq hFq HT
      as_aux_lemma=>
       have hsz2:w13.heap.size < w37.heap.size:=HD37.out.lt
       have y39:=HX37.out.cell
       have HQ:=Lib.hid hRr
       clear hRr
       go_wp2_with (refine wpList_store1 rfl 4 _ _ rfl (w13.heap.size) 21 (.bool true) rfl rfl HD37.out (by simp) sz_bool rfl rfl ?_)
       refine Named.mk (fun w38 hW38=>?_)
       have hRr:=HQ.out
       clear HQ y39
       obtain ⟨L38,hL38⟩:∃ L:List Value,L=[.bool true]:=⟨_,rfl⟩
       rw [← hL38] at hW38
       have HP38:Hid (Par w38 p vl E (j4 + 2)):=by rw [hW38];exact Par.setR (by omega) L38 21 HP37.out
       have HF38:Hid (Fp p w w38):=by rw [hW38];exact Fp.setR (by omega) L38 21 HF37.out
       have hb38:=HD37.out.stored hW38 (by rw [hL38];simp)
       rw [hL38] at hb38
       have HD38:Hid (Holds w38 (w13.heap.size) 108 [.string ⟨s.toArray⟩,.bool q1,.int .i64 (x.kind:Int),.int .i64 x.n,.string ⟨x.name.toArray⟩,.string ⟨x.label.toArray⟩,.slice xa1 xn1 xc1,.slice xa2 xn2 xc2,.slice xa3 xn3 xc3,.slice xa4 xn4 xc4,.slice xa5 xn5 xc5,.bool false,.int .i64 0,.int .i64 0,.string ⟨#[]⟩,.string ⟨#[]⟩,.slice none 0 0,.slice none 0 0,.slice none 0 0,.slice none 0 0,.slice none 0 0,.bool true,.slice none 0 0]):=hb38
       clear hb38
       have hb38:=Holds.farR (b':=w13.heap.size) (by omega) L38 21 HX37.out
       rw [← hW38] at hb38
       have HX38:=Lib.hid hb38
       clear hb38
       have hb38:=Holds.farR (b':=w13.heap.size) (by omega) L38 21 HR37.out
       rw [← hW38] at hb38
       have HR38:=Lib.hid hb38
       clear hb38
       have hb38:=HVx37.out.up (Keep.setR (b:=w13.heap.size) (fun h=>h.2 rfl) L38 21)
       rw [← hW38] at hb38
       have HVx38:=Lib.hid hb38
       clear hb38
       clear hW38 hL38 HP37 HF37 HD37 HX37 HR37 HVx37
       have hsz3:w13.heap.size < w38.heap.size:=HD38.out.lt
       have y41:=HX38.out.cell
       have y42:=HD38.out.cell
       have y43:=HD38.out.free
       have HC':=(exprOk E f).expr (lvl:=0) HP38.out (by omega) (fun h=>by rw [h] at hRr;exact HNE.out hRr.symm)
       have HCx:=Lib.hid HC'
       clear HC'
       have HQ:=Lib.hid hRr
       clear hRr
       go_wp2_with (fail)
       clear y41 y42 y43
       have hRr:=HQ.out
       clear HQ
       have HC':=HCx.out
       clear HCx
       cases h1:expr E f 0 (j4 + 2) with
       | out=>exact absurd h1 (fun h=>by rw [h] at hRr;exact HNE.out hRr.symm)
       | bad c a=>
        rw [h1] at HC' hRr
        refine HC'.mono ?_
        rintro e wz ⟨rfl,hF⟩
        rw [← (show _=_ from hRr)]
        exact ⟨rfl,rfl,HF38.out.trans hF⟩
       | ok e j5=>
        rw [h1] at HC' hRr
        have HC:=Lib.hid HC'
        clear h1 HC' 
        try simp only [bd_ok] at hRr
        refine (HC.out).mono ?_
        rintro e w40 ⟨vw40,rfl,⟨vn,vi,vh,vk,va,rfl,hve⟩,hPq,hFq⟩
        obtain ⟨ea1,en1,ec1,ea2,en2,ec2,ea3,en3,ec3,ea4,en4,ec4,ea5,en5,ec5,rfl,rfl,rfl,rfl,rfl⟩:=hve.forms
        unfold Ast.val
        have HP40:=Lib.hid hPq
        have HF40:=Lib.hid (HF38.out.trans hFq)
        have HD40:=Lib.hid (HD38.out.fp hFq (by omega))
        have HX40:=Lib.hid (HX38.out.fp hFq (by omega))
        have HR40:=Lib.hid (HR38.out.fp hFq (by omega))
        have HVx40:=Lib.hid (HVx38.out.up (Keep.of_fp hFq (by show ¬ _;omega)))
        clear HP38 HF38 HD38 HX38 HR38 HVx38
        clear hPq hFq HC
        have HVe40:=Lib.hid hve
        clear hve
        have hv3:=HVe40.out.mono (Q:=fun k=>w.heap.size + 2 ≤ k∧k ≠ w13.heap.size) (fun k hk hs=>by have h:_ ≤ k:=hk;exact ⟨by omega,by omega⟩)
        clear HVe40
        have HVe40:=Lib.hid hv3
        clear hv3
        have y45:=HX40.out.cell
        have HQ:=Lib.hid hRr
        clear hRr
        go_wp2_with (refine wpList_storeB rfl 41 _ _ rfl (w13.heap.size) 12 [.int .i64 (e.kind:Int),.int .i64 e.n,.string ⟨e.name.toArray⟩,.string ⟨e.label.toArray⟩,.slice ea1 en1 ec1,.slice ea2 en2 ec2,.slice ea3 en3 ec3,.slice ea4 en4 ec4,.slice ea5 en5 ec5] rfl rfl HD40.out (by simp) sz_Ast (by simp [Value.oneCell']) ?_)
        refine Named.mk (fun w44 hW44=>?_)
        have hRr:=HQ.out
        clear HQ y45
        obtain ⟨L44,hL44⟩:∃ L:List Value,L=[.int .i64 (e.kind:Int),.int .i64 e.n,.string ⟨e.name.toArray⟩,.string ⟨e.label.toArray⟩,.slice ea1 en1 ec1,.slice ea2 en2 ec2,.slice ea3 en3 ec3,.slice ea4 en4 ec4,.slice ea5 en5 ec5]:=⟨_,rfl⟩
        rw [← hL44] at hW44
        have HP44:Hid (Par w44 p vl E (j5)):=by rw [hW44];exact Par.setR (by omega) L44 12 HP40.out
        have HF44:Hid (Fp p w w44):=by rw [hW44];exact Fp.setR (by omega) L44 12 HF40.out
        have hb44:=HD40.out.stored hW44 (by rw [hL44];simp)
        rw [hL44] at hb44
        have HD44:Hid (Holds w44 (w13.heap.size) 108 [.string ⟨s.toArray⟩,.bool q1,.int .i64 (x.kind:Int),.int .i64 x.n,.string ⟨x.name.toArray⟩,.string ⟨x.label.toArray⟩,.slice xa1 xn1 xc1,.slice xa2 xn2 xc2,.slice xa3 xn3 xc3,.slice xa4 xn4 xc4,.slice xa5 xn5 xc5,.bool false,.int .i64 (e.kind:Int),.int .i64 e.n,.string ⟨e.name.toArray⟩,.string ⟨e.label.toArray⟩,.slice ea1 en1 ec1,.slice ea2 en2 ec2,.slice ea3 en3 ec3,.slice ea4 en4 ec4,.slice ea5 en5 ec5,.bool true,.slice none 0 0]):=hb44
        clear hb44
        have hb44:=Holds.farR (b':=w13.heap.size) (by omega) L44 12 HX40.out
        rw [← hW44] at hb44
        have HX44:=Lib.hid hb44
        clear hb44
        have hb44:=Holds.farR (b':=w13.heap.size) (by omega) L44 12 HR40.out
        rw [← hW44] at hb44
        have HR44:=Lib.hid hb44
        clear hb44
        have hb44:=HVx40.out.up (Keep.setR (b:=w13.heap.size) (fun h=>h.2 rfl) L44 12)
        rw [← hW44] at hb44
        have HVx44:=Lib.hid hb44
        clear hb44
        have hb44:=HVe40.out.up (Keep.setR (b:=w13.heap.size) (fun h=>h.2 rfl) L44 12)
        rw [← hW44] at hb44
        have HVe44:=Lib.hid hb44
        clear hb44
        clear hW44 hL44 HP40 HF40 HD40 HX40 HR40 HVx40 HVe40
        have y47:=HX44.out.cell
        have HC':=needFn HP44.out [93]
        have HCx:=Lib.hid HC'
        clear HC'
        have HQ:=Lib.hid hRr
        clear hRr
        go_wp2_with (fail)
        clear y47
        have hRr:=HQ.out
        clear HQ
        have HC':=HCx.out
        clear HCx
        cases h1:need E [93] j5 with
        | out=>exact absurd h1 need_ne
        | bad c a=>
         rw [h1] at HC' hRr
         refine HC'.mono ?_
         rintro e wz ⟨rfl,hF⟩
         rw [← (show _=_ from hRr)]
         exact ⟨rfl,rfl,HF44.out.trans hF⟩
        | ok u j5x=>
         rw [h1] at HC' hRr
         have HC:=Lib.hid HC'
         clear h1 HC' 
         try simp only [bd_ok] at hRr
         refine (HC.out).mono ?_
         rintro e w46 ⟨vw46,rfl,hv,hPq,hFq⟩
         have HP46:=Lib.hid hPq
         have HF46:=Lib.hid (HF44.out.trans hFq)
         have HD46:=Lib.hid (HD44.out.fp hFq (by omega))
         have HX46:=Lib.hid (HX44.out.fp hFq (by omega))
         have HR46:=Lib.hid (HR44.out.fp hFq (by omega))
         have HVx46:=Lib.hid (HVx44.out.up (Keep.of_fp hFq (by show ¬ _;omega)))
         have HVe46:=Lib.hid (HVe44.out.up (Keep.of_fp hFq (by show ¬ _;omega)))
         clear HP44 HF44 HD44 HX44 HR44 HVx44 HVe44
         clear hPq hFq HC
         obtain rfl:=hv
         have y49:=HX46.out.cell
         have HC':=needFn HP46.out [111,102]
         have HCx:=Lib.hid HC'
         clear HC'
         have HQ:=Lib.hid hRr
         clear hRr
         go_wp2_with (fail)
         clear y49
         have hRr:=HQ.out
         clear HQ
         have HC':=HCx.out
         clear HCx
         cases h1:need E [111,102] j5x with
         | out=>exact absurd h1 need_ne
         | bad c a=>
          rw [h1] at HC' hRr
          refine HC'.mono ?_
          rintro e wz ⟨rfl,hF⟩
          rw [← (show _=_ from hRr)]
          exact ⟨rfl,rfl,HF46.out.trans hF⟩
         | ok u j6=>
          rw [h1] at HC' hRr
          have HC:=Lib.hid HC'
          clear h1 HC' 
          try simp only [bd_ok] at hRr
          refine (HC.out).mono ?_
          rintro e w48 ⟨vw48,rfl,hv,hPq,hFq⟩
          have HP48:=Lib.hid hPq
          have HF48:=Lib.hid (HF46.out.trans hFq)
          have HD48:=Lib.hid (HD46.out.fp hFq (by omega))
          have HX48:=Lib.hid (HX46.out.fp hFq (by omega))
          have HR48:=Lib.hid (HR46.out.fp hFq (by omega))
          have HVx48:=Lib.hid (HVx46.out.up (Keep.of_fp hFq (by show ¬ _;omega)))
          have HVe48:=Lib.hid (HVe46.out.up (Keep.of_fp hFq (by show ¬ _;omega)))
          clear HP46 HF46 HD46 HX46 HR46 HVx46 HVe46
          clear hPq hFq HC
          obtain rfl:=hv
          have y51:=HX48.out.cell
          have HC':=needFn HP48.out [123]
          have HCx:=Lib.hid HC'
          clear HC'
          have HQ:=Lib.hid hRr
          clear hRr
          go_wp2_with (fail)
          clear y51
          have hRr:=HQ.out
          clear HQ
          have HC':=HCx.out
          clear HCx
          cases h1:need E [123] j6 with
          | out=>exact absurd h1 need_ne
          | bad c a=>
           rw [h1] at HC' hRr
           refine HC'.mono ?_
           rintro e wz ⟨rfl,hF⟩
           rw [← (show _=_ from hRr)]
           exact ⟨rfl,rfl,HF48.out.trans hF⟩
          | ok u j7=>
           rw [h1] at HC' hRr
           have HC:=Lib.hid HC'
           clear h1 HC' 
           try simp only [bd_ok] at hRr
           refine (HC.out).mono ?_
           rintro e w50 ⟨vw50,rfl,hv,hPq,hFq⟩
           have HP50:=Lib.hid hPq
           have HF50:=Lib.hid (HF48.out.trans hFq)
           have HD50:=Lib.hid (HD48.out.fp hFq (by omega))
           have HX50:=Lib.hid (HX48.out.fp hFq (by omega))
           have HR50:=Lib.hid (HR48.out.fp hFq (by omega))
           have HVx50:=Lib.hid (HVx48.out.up (Keep.of_fp hFq (by show ¬ _;omega)))
           have HVe50:=Lib.hid (HVe48.out.up (Keep.of_fp hFq (by show ¬ _;omega)))
           clear HP48 HF48 HD48 HX48 HR48 HVx48 HVe48
           clear hPq hFq HC
           obtain rfl:=hv
           have hsz4:w13.heap.size < w50.heap.size:=HD50.out.lt
           have hpx:p < w.heap.size:=hp1
           have y53:=HX50.out.cell
           have HC':=listIntFn f (field E) _ _ _ HP50.out (oneField HX50.out hpx) (fun i a k h=>Nat.le_of_lt (field_adv i a k h).1) (fun h=>by rw [h] at hRr;exact HNE.out hRr.symm)
           have HCx:=Lib.hid HC'
           clear HC'
           have HQ:=Lib.hid hRr
           clear hRr
           go_wp2_with (fail)
           clear y53
           have hRr:=HQ.out
           clear HQ
           have HC':=HCx.out
           clear HCx
           cases h1:many E (field E) f j7 with
           | out=>exact absurd h1 (fun h=>by rw [h] at hRr;exact HNE.out hRr.symm)
           | bad c a=>
            rw [h1] at HC' hRr
            refine HC'.mono ?_
            rintro e wz ⟨rfl,hF⟩
            rw [← (show _=_ from hRr)]
            exact ⟨rfl,rfl,HF50.out.trans hF⟩
           | ok l j8=>
            rw [h1] at HC' hRr
            have HC:=Lib.hid HC'
            clear h1 HC' 
            try simp only [bd_ok] at hRr
            refine (HC.out).mono ?_
            rintro e w52 ⟨vw52,rfl,hv,hPq,hFq⟩
            have HP52:=Lib.hid hPq
            have HF52:=Lib.hid (HF50.out.trans hFq)
            have HD52:=Lib.hid (HD50.out.fp hFq (by omega))
            have HX52:=Lib.hid (HX50.out.fp hFq (by omega))
            have HR52:=Lib.hid (HR50.out.fp hFq (by omega))
            have HVx52:=Lib.hid (HVx50.out.up (Keep.of_fp hFq (by show ¬ _;omega)))
            have HVe52:=Lib.hid (HVe50.out.up (Keep.of_fp hFq (by show ¬ _;omega)))
            clear HP50 HF50 HD50 HX50 HR50 HVx50 HVe50
            clear hPq hFq HC
            obtain ⟨ff,hr,hf⟩:=hv
            obtain ⟨fa,fc,hvf,_⟩:=hr.form
            subst hvf
            have HVf52:=Lib.hid ((show IntsE (From w50.heap.size) w52 _ _ from ⟨ff,hr,hf⟩).row.mono (Q:=fun k=>w.heap.size + 2 ≤ k∧k ≠ w13.heap.size) (fun k hk hs=>by have h:_ ≤ k:=hk;exact ⟨by omega,by omega⟩))
            clear hr hf
            have y55:=HX52.out.cell
            have HQ:=Lib.hid hRr
            clear hRr
            go_wp2_with (refine wpList_store1 rfl 46 _ _ rfl (w13.heap.size) 22 (.slice fa l.length fc) rfl rfl HD52.out (by simp) sz_Ints rfl rfl ?_)
            refine Named.mk (fun w54 hW54=>?_)
            have hRr:=HQ.out
            clear HQ y55
            obtain ⟨L54,hL54⟩:∃ L:List Value,L=[.slice fa l.length fc]:=⟨_,rfl⟩
            rw [← hL54] at hW54
            have HP54:Hid (Par w54 p vl E (j8)):=by rw [hW54];exact Par.setR (by omega) L54 22 HP52.out
            have HF54:Hid (Fp p w w54):=by rw [hW54];exact Fp.setR (by omega) L54 22 HF52.out
            have hb54:=HD52.out.stored hW54 (by rw [hL54];simp)
            rw [hL54] at hb54
            have HD54:Hid (Holds w54 (w13.heap.size) 108 [.string ⟨s.toArray⟩,.bool q1,.int .i64 (x.kind:Int),.int .i64 x.n,.string ⟨x.name.toArray⟩,.string ⟨x.label.toArray⟩,.slice xa1 xn1 xc1,.slice xa2 xn2 xc2,.slice xa3 xn3 xc3,.slice xa4 xn4 xc4,.slice xa5 xn5 xc5,.bool false,.int .i64 (e.kind:Int),.int .i64 e.n,.string ⟨e.name.toArray⟩,.string ⟨e.label.toArray⟩,.slice ea1 en1 ec1,.slice ea2 en2 ec2,.slice ea3 en3 ec3,.slice ea4 en4 ec4,.slice ea5 en5 ec5,.bool true,.slice fa l.length fc]):=hb54
            clear hb54
            have hb54:=Holds.farR (b':=w13.heap.size) (by omega) L54 22 HX52.out
            rw [← hW54] at hb54
            have HX54:=Lib.hid hb54
            clear hb54
            have hb54:=Holds.farR (b':=w13.heap.size) (by omega) L54 22 HR52.out
            rw [← hW54] at hb54
            have HR54:=Lib.hid hb54
            clear hb54
            have hb54:=HVx52.out.up (Keep.setR (b:=w13.heap.size) (fun h=>h.2 rfl) L54 22)
            rw [← hW54] at hb54
            have HVx54:=Lib.hid hb54
            clear hb54
            have hb54:=HVe52.out.up (Keep.setR (b:=w13.heap.size) (fun h=>h.2 rfl) L54 22)
            rw [← hW54] at hb54
            have HVe54:=Lib.hid hb54
            clear hb54
            have hb54:=HVf52.out.up (Keep.setR (b:=w13.heap.size) (fun h=>h.2 rfl) L54 22)
            rw [← hW54] at hb54
            have HVf54:=Lib.hid hb54
            clear hb54
            clear hW54 hL54 HP52 HF52 HD52 HX52 HR52 HVx52 HVe52 HVf52
            have y57:=HX54.out.cell
            have HC':=needFn HP54.out [125]
            have HCx:=Lib.hid HC'
            clear HC'
            have HQ:=Lib.hid hRr
            clear hRr
            go_wp2_with (fail)
            clear y57
            have hRr:=HQ.out
            clear HQ
            have HC':=HCx.out
            clear HCx
            cases h1:need E [125] j8 with
            | out=>exact absurd h1 need_ne
            | bad c a=>
             rw [h1] at HC' hRr
             refine HC'.mono ?_
             rintro e wz ⟨rfl,hF⟩
             rw [← (show _=_ from hRr)]
             exact ⟨rfl,rfl,HF54.out.trans hF⟩
            | ok u j9=>
             rw [h1] at HC' hRr
             have HC:=Lib.hid HC'
             clear h1 HC' 
             try simp only [bd_ok] at hRr
             refine (HC.out).mono ?_
             rintro e w56 ⟨vw56,rfl,hv,hPq,hFq⟩
             have HP56:=Lib.hid hPq
             have HF56:=Lib.hid (HF54.out.trans hFq)
             have HD56:=Lib.hid (HD54.out.fp hFq (by omega))
             have HX56:=Lib.hid (HX54.out.fp hFq (by omega))
             have HR56:=Lib.hid (HR54.out.fp hFq (by omega))
             have HVx56:=Lib.hid (HVx54.out.up (Keep.of_fp hFq (by show ¬ _;omega)))
             have HVe56:=Lib.hid (HVe54.out.up (Keep.of_fp hFq (by show ¬ _;omega)))
             have HVf56:=Lib.hid (HVf54.out.up (Keep.of_fp hFq (by show ¬ _;omega)))
             clear HP54 HF54 HD54 HX54 HR54 HVx54 HVe54 HVf54
             clear hPq hFq HC
             obtain rfl:=hv
             have y58:=HX56.out.cell
             have HZ:=Lib.hid hRr
             clear hRr
             go_wp2_with (first | (refine wpList_load_mid rfl 108 _ rfl (w13.heap.size) 0 rfl [.string ⟨s.toArray⟩,.bool q1,.int .i64 (x.kind:Int),.int .i64 x.n,.string ⟨x.name.toArray⟩,.string ⟨x.label.toArray⟩,.slice xa1 xn1 xc1,.slice xa2 xn2 xc2,.slice xa3 xn3 xc3,.slice xa4 xn4 xc4,.slice xa5 xn5 xc5,.bool false,.int .i64 (e.kind:Int),.int .i64 e.n,.string ⟨e.name.toArray⟩,.string ⟨e.label.toArray⟩,.slice ea1 en1 ec1,.slice ea2 en2 ec2,.slice ea3 en3 ec3,.slice ea4 en4 ec4,.slice ea5 en5 ec5,.bool true,.slice fa l.length fc] _ (HD56.out.range (n:=23) rfl) Tryz.underlying108 rfl sz_DVar ?_) | (refine wpList_storeB rfl 108 _ _ rfl (w.heap.size + 1) 0 [.string ⟨s.toArray⟩,.bool q1,.int .i64 (x.kind:Int),.int .i64 x.n,.string ⟨x.name.toArray⟩,.string ⟨x.label.toArray⟩,.slice xa1 xn1 xc1,.slice xa2 xn2 xc2,.slice xa3 xn3 xc3,.slice xa4 xn4 xc4,.slice xa5 xn5 xc5,.bool false,.int .i64 (e.kind:Int),.int .i64 e.n,.string ⟨e.name.toArray⟩,.string ⟨e.label.toArray⟩,.slice ea1 en1 ec1,.slice ea2 en2 ec2,.slice ea3 en3 ec3,.slice ea4 en4 ec4,.slice ea5 en5 ec5,.bool true,.slice fa l.length fc] rfl rfl HR56.out (by simp) (by kernel_rfl) (by simp [Value.oneCell']) ?_))
             refine Named.mk (fun wf hWf=>?_)
             clear y58
             go_wp2
             exact dv_end (P:=fun k=>w.heap.size + 2 ≤ k∧k ≠ w13.heap.size) (d:=⟨s,q1,x,false,e,true,l⟩) Tryz.results107 rfl rfl HR56.out rfl (DvF.mk HVx56.out HVe56.out HVf56.out) (by show ¬ _;omega) (by intro k hk;have hk2:=hk.1;omega) (by omega) hp1 HP56.out HF56.out HZ.out.symm hWf
     | false=>
      rw [if_neg (by rw [hs];decide)] at hRr
      have HT:=Lib.hid (takes_no HP36.out [[91]] HL.out (by simp) hs)
      clear hs HL
      have HQ:=Lib.hid hRr
      clear hRr
      go_wp2_with (fail)
      clear y35
      have hRr:=HQ.out
      clear HQ
      refine (HT.out).mono ?_
      rintro e w37 ⟨rfl,hbq⟩
      have HP37:=Lib.hid (HP36.out.belowAll hbq)
      have HF37:=Lib.hid (HF36.out.bel hbq)
      have HD37:=Lib.hid (HD36.out.belowAll hbq)
      have HX37:=Lib.hid (HX36.out.belowAll hbq)
      have HR37:=Lib.hid (HR36.out.belowAll hbq)
      have HVx37:=Lib.hid (HVx36.out.up (Keep.below hbq))
      clear HP36 HF36 HD36 HX36 HR36 HVx36
      clear hbq HT
      as_aux_lemma=>
       have hsz2:w13.heap.size < w37.heap.size:=HD37.out.lt
       have y60:=HX37.out.cell
       have HQ:=Lib.hid hRr
       clear hRr
       go_wp2_with (refine wpList_store1 rfl 4 _ _ rfl (w13.heap.size) 21 (.bool false) rfl rfl HD37.out (by simp) sz_bool rfl rfl ?_)
       refine Named.mk (fun w59 hW59=>?_)
       have hRr:=HQ.out
       clear HQ y60
       obtain ⟨L59,hL59⟩:∃ L:List Value,L=[.bool false]:=⟨_,rfl⟩
       rw [← hL59] at hW59
       have HP59:Hid (Par w59 p vl E (j4 + 1)):=by rw [hW59];exact Par.setR (by omega) L59 21 HP37.out
       have HF59:Hid (Fp p w w59):=by rw [hW59];exact Fp.setR (by omega) L59 21 HF37.out
       have hb59:=HD37.out.stored hW59 (by rw [hL59];simp)
       rw [hL59] at hb59
       have HD59:Hid (Holds w59 (w13.heap.size) 108 [.string ⟨s.toArray⟩,.bool q1,.int .i64 (x.kind:Int),.int .i64 x.n,.string ⟨x.name.toArray⟩,.string ⟨x.label.toArray⟩,.slice xa1 xn1 xc1,.slice xa2 xn2 xc2,.slice xa3 xn3 xc3,.slice xa4 xn4 xc4,.slice xa5 xn5 xc5,.bool false,.int .i64 0,.int .i64 0,.string ⟨#[]⟩,.string ⟨#[]⟩,.slice none 0 0,.slice none 0 0,.slice none 0 0,.slice none 0 0,.slice none 0 0,.bool false,.slice none 0 0]):=hb59
       clear hb59
       have hb59:=Holds.farR (b':=w13.heap.size) (by omega) L59 21 HX37.out
       rw [← hW59] at hb59
       have HX59:=Lib.hid hb59
       clear hb59
       have hb59:=Holds.farR (b':=w13.heap.size) (by omega) L59 21 HR37.out
       rw [← hW59] at hb59
       have HR59:=Lib.hid hb59
       clear hb59
       have hb59:=HVx37.out.up (Keep.setR (b:=w13.heap.size) (fun h=>h.2 rfl) L59 21)
       rw [← hW59] at hb59
       have HVx59:=Lib.hid hb59
       clear hb59
       clear hW59 hL59 HP37 HF37 HD37 HX37 HR37 HVx37
       have hsz3:w13.heap.size < w59.heap.size:=HD59.out.lt
       have y62:=HX59.out.cell
       have y63:=HD59.out.cell
       have y64:=HD59.out.free
       have HC':=(exprOk E f).expr (lvl:=0) HP59.out (by omega) (fun h=>by rw [h] at hRr;exact HNE.out hRr.symm)
       have HCx:=Lib.hid HC'
       clear HC'
       have HQ:=Lib.hid hRr
       clear hRr
       go_wp2_with (fail)
       clear y62 y63 y64
       have hRr:=HQ.out
       clear HQ
       have HC':=HCx.out
       clear HCx
       cases h1:expr E f 0 (j4 + 1) with
       | out=>exact absurd h1 (fun h=>by rw [h] at hRr;exact HNE.out hRr.symm)
       | bad c a=>
        rw [h1] at HC' hRr
        refine HC'.mono ?_
        rintro e wz ⟨rfl,hF⟩
        rw [← (show _=_ from hRr)]
        exact ⟨rfl,rfl,HF59.out.trans hF⟩
       | ok e j5=>
        rw [h1] at HC' hRr
        have HC:=Lib.hid HC'
        clear h1 HC' 
        try simp only [bd_ok] at hRr
        refine (HC.out).mono ?_
        rintro e w61 ⟨vw61,rfl,⟨vn,vi,vh,vk,va,rfl,hve⟩,hPq,hFq⟩
        obtain ⟨ea1,en1,ec1,ea2,en2,ec2,ea3,en3,ec3,ea4,en4,ec4,ea5,en5,ec5,rfl,rfl,rfl,rfl,rfl⟩:=hve.forms
        unfold Ast.val
        have HP61:=Lib.hid hPq
        have HF61:=Lib.hid (HF59.out.trans hFq)
        have HD61:=Lib.hid (HD59.out.fp hFq (by omega))
        have HX61:=Lib.hid (HX59.out.fp hFq (by omega))
        have HR61:=Lib.hid (HR59.out.fp hFq (by omega))
        have HVx61:=Lib.hid (HVx59.out.up (Keep.of_fp hFq (by show ¬ _;omega)))
        clear HP59 HF59 HD59 HX59 HR59 HVx59
        clear hPq hFq HC
        have HVe61:=Lib.hid hve
        clear hve
        have hv3:=HVe61.out.mono (Q:=fun k=>w.heap.size + 2 ≤ k∧k ≠ w13.heap.size) (fun k hk hs=>by have h:_ ≤ k:=hk;exact ⟨by omega,by omega⟩)
        clear HVe61
        have HVe61:=Lib.hid hv3
        clear hv3
        have y66:=HX61.out.cell
        have HQ:=Lib.hid hRr
        clear hRr
        go_wp2_with (refine wpList_store1 rfl 4 _ _ rfl (w13.heap.size) 11 (.bool true) rfl rfl HD61.out (by simp) sz_bool rfl rfl ?_)
        refine Named.mk (fun w65 hW65=>?_)
        have hRr:=HQ.out
        clear HQ y66
        obtain ⟨L65,hL65⟩:∃ L:List Value,L=[.bool true]:=⟨_,rfl⟩
        rw [← hL65] at hW65
        have HP65:Hid (Par w65 p vl E (j5)):=by rw [hW65];exact Par.setR (by omega) L65 11 HP61.out
        have HF65:Hid (Fp p w w65):=by rw [hW65];exact Fp.setR (by omega) L65 11 HF61.out
        have hb65:=HD61.out.stored hW65 (by rw [hL65];simp)
        rw [hL65] at hb65
        have HD65:Hid (Holds w65 (w13.heap.size) 108 [.string ⟨s.toArray⟩,.bool q1,.int .i64 (x.kind:Int),.int .i64 x.n,.string ⟨x.name.toArray⟩,.string ⟨x.label.toArray⟩,.slice xa1 xn1 xc1,.slice xa2 xn2 xc2,.slice xa3 xn3 xc3,.slice xa4 xn4 xc4,.slice xa5 xn5 xc5,.bool true,.int .i64 0,.int .i64 0,.string ⟨#[]⟩,.string ⟨#[]⟩,.slice none 0 0,.slice none 0 0,.slice none 0 0,.slice none 0 0,.slice none 0 0,.bool false,.slice none 0 0]):=hb65
        clear hb65
        have hb65:=Holds.farR (b':=w13.heap.size) (by omega) L65 11 HX61.out
        rw [← hW65] at hb65
        have HX65:=Lib.hid hb65
        clear hb65
        have hb65:=Holds.farR (b':=w13.heap.size) (by omega) L65 11 HR61.out
        rw [← hW65] at hb65
        have HR65:=Lib.hid hb65
        clear hb65
        have hb65:=HVx61.out.up (Keep.setR (b:=w13.heap.size) (fun h=>h.2 rfl) L65 11)
        rw [← hW65] at hb65
        have HVx65:=Lib.hid hb65
        clear hb65
        have hb65:=HVe61.out.up (Keep.setR (b:=w13.heap.size) (fun h=>h.2 rfl) L65 11)
        rw [← hW65] at hb65
        have HVe65:=Lib.hid hb65
        clear hb65
        clear hW65 hL65 HP61 HF61 HD61 HX61 HR61 HVx61 HVe61
        have y68:=HX65.out.cell
        have HQ:=Lib.hid hRr
        clear hRr
        go_wp2_with (refine wpList_storeB rfl 41 _ _ rfl (w13.heap.size) 12 [.int .i64 (e.kind:Int),.int .i64 e.n,.string ⟨e.name.toArray⟩,.string ⟨e.label.toArray⟩,.slice ea1 en1 ec1,.slice ea2 en2 ec2,.slice ea3 en3 ec3,.slice ea4 en4 ec4,.slice ea5 en5 ec5] rfl rfl HD65.out (by simp) sz_Ast (by simp [Value.oneCell']) ?_)
        refine Named.mk (fun w67 hW67=>?_)
        have hRr:=HQ.out
        clear HQ y68
        obtain ⟨L67,hL67⟩:∃ L:List Value,L=[.int .i64 (e.kind:Int),.int .i64 e.n,.string ⟨e.name.toArray⟩,.string ⟨e.label.toArray⟩,.slice ea1 en1 ec1,.slice ea2 en2 ec2,.slice ea3 en3 ec3,.slice ea4 en4 ec4,.slice ea5 en5 ec5]:=⟨_,rfl⟩
        rw [← hL67] at hW67
        have HP67:Hid (Par w67 p vl E (j5)):=by rw [hW67];exact Par.setR (by omega) L67 12 HP65.out
        have HF67:Hid (Fp p w w67):=by rw [hW67];exact Fp.setR (by omega) L67 12 HF65.out
        have hb67:=HD65.out.stored hW67 (by rw [hL67];simp)
        rw [hL67] at hb67
        have HD67:Hid (Holds w67 (w13.heap.size) 108 [.string ⟨s.toArray⟩,.bool q1,.int .i64 (x.kind:Int),.int .i64 x.n,.string ⟨x.name.toArray⟩,.string ⟨x.label.toArray⟩,.slice xa1 xn1 xc1,.slice xa2 xn2 xc2,.slice xa3 xn3 xc3,.slice xa4 xn4 xc4,.slice xa5 xn5 xc5,.bool true,.int .i64 (e.kind:Int),.int .i64 e.n,.string ⟨e.name.toArray⟩,.string ⟨e.label.toArray⟩,.slice ea1 en1 ec1,.slice ea2 en2 ec2,.slice ea3 en3 ec3,.slice ea4 en4 ec4,.slice ea5 en5 ec5,.bool false,.slice none 0 0]):=hb67
        clear hb67
        have hb67:=Holds.farR (b':=w13.heap.size) (by omega) L67 12 HX65.out
        rw [← hW67] at hb67
        have HX67:=Lib.hid hb67
        clear hb67
        have hb67:=Holds.farR (b':=w13.heap.size) (by omega) L67 12 HR65.out
        rw [← hW67] at hb67
        have HR67:=Lib.hid hb67
        clear hb67
        have hb67:=HVx65.out.up (Keep.setR (b:=w13.heap.size) (fun h=>h.2 rfl) L67 12)
        rw [← hW67] at hb67
        have HVx67:=Lib.hid hb67
        clear hb67
        have hb67:=HVe65.out.up (Keep.setR (b:=w13.heap.size) (fun h=>h.2 rfl) L67 12)
        rw [← hW67] at hb67
        have HVe67:=Lib.hid hb67
        clear hb67
        clear hW67 hL67 HP65 HF65 HD65 HX65 HR65 HVx65 HVe65
        have y69:=HX67.out.cell
        have HZ:=Lib.hid hRr
        clear hRr
        go_wp2_with (first | (refine wpList_load_mid rfl 108 _ rfl (w13.heap.size) 0 rfl [.string ⟨s.toArray⟩,.bool q1,.int .i64 (x.kind:Int),.int .i64 x.n,.string ⟨x.name.toArray⟩,.string ⟨x.label.toArray⟩,.slice xa1 xn1 xc1,.slice xa2 xn2 xc2,.slice xa3 xn3 xc3,.slice xa4 xn4 xc4,.slice xa5 xn5 xc5,.bool true,.int .i64 (e.kind:Int),.int .i64 e.n,.string ⟨e.name.toArray⟩,.string ⟨e.label.toArray⟩,.slice ea1 en1 ec1,.slice ea2 en2 ec2,.slice ea3 en3 ec3,.slice ea4 en4 ec4,.slice ea5 en5 ec5,.bool false,.slice none 0 0] _ (HD67.out.range (n:=23) rfl) Tryz.underlying108 rfl sz_DVar ?_) | (refine wpList_storeB rfl 108 _ _ rfl (w.heap.size + 1) 0 [.string ⟨s.toArray⟩,.bool q1,.int .i64 (x.kind:Int),.int .i64 x.n,.string ⟨x.name.toArray⟩,.string ⟨x.label.toArray⟩,.slice xa1 xn1 xc1,.slice xa2 xn2 xc2,.slice xa3 xn3 xc3,.slice xa4 xn4 xc4,.slice xa5 xn5 xc5,.bool true,.int .i64 (e.kind:Int),.int .i64 e.n,.string ⟨e.name.toArray⟩,.string ⟨e.label.toArray⟩,.slice ea1 en1 ec1,.slice ea2 en2 ec2,.slice ea3 en3 ec3,.slice ea4 en4 ec4,.slice ea5 en5 ec5,.bool false,.slice none 0 0] rfl rfl HR67.out (by simp) (by kernel_rfl) (by simp [Value.oneCell']) ?_))
        refine Named.mk (fun wf hWf=>?_)
        clear y69
        go_wp2
        exact dv_end (P:=fun k=>w.heap.size + 2 ≤ k∧k ≠ w13.heap.size) (d:=⟨s,q1,x,true,e,false,[]⟩) Tryz.results107 rfl rfl HR67.out rfl (DvF.mk HVx67.out HVe67.out (RowL.nil _ _ _)) (by show ¬ _;omega) (by intro k hk;have hk2:=hk.1;omega) (by omega) hp1 HP67.out HF67.out HZ.out.symm hWf
    | false=>
     rw [if_neg (by rw [hs];decide)] at hRr
     have HT:=Lib.hid (takes_no HP33.out [[61]] HL.out (by simp) hs)
     clear hs HL
     have HQ:=Lib.hid hRr
     clear hRr
     go_wp2_with (fail)
     clear y32
     have hRr:=HQ.out
     clear HQ
     refine (HT.out).mono ?_
     rintro e w34 ⟨rfl,hbq⟩
     have HP34:=Lib.hid (HP33.out.belowAll hbq)
     have HF34:=Lib.hid (HF33.out.bel hbq)
     have HD34:=Lib.hid (HD33.out.belowAll hbq)
     have HX34:=Lib.hid (HX33.out.belowAll hbq)
     have HR34:=Lib.hid (HR33.out.belowAll hbq)
     have HVx34:=Lib.hid (HVx33.out.up (Keep.below hbq))
     clear HP33 HF33 HD33 HX33 HR33 HVx33
     clear hbq HT
     as_aux_lemma=>
      have y70:=HX34.out.cell
      have HZ:=Lib.hid hRr
      clear hRr
      go_wp2_with (first | (refine wpList_load_mid rfl 108 _ rfl (w13.heap.size) 0 rfl [.string ⟨s.toArray⟩,.bool q1,.int .i64 (x.kind:Int),.int .i64 x.n,.string ⟨x.name.toArray⟩,.string ⟨x.label.toArray⟩,.slice xa1 xn1 xc1,.slice xa2 xn2 xc2,.slice xa3 xn3 xc3,.slice xa4 xn4 xc4,.slice xa5 xn5 xc5,.bool false,.int .i64 0,.int .i64 0,.string ⟨#[]⟩,.string ⟨#[]⟩,.slice none 0 0,.slice none 0 0,.slice none 0 0,.slice none 0 0,.slice none 0 0,.bool false,.slice none 0 0] _ (HD34.out.range (n:=23) rfl) Tryz.underlying108 rfl sz_DVar ?_) | (refine wpList_storeB rfl 108 _ _ rfl (w.heap.size + 1) 0 [.string ⟨s.toArray⟩,.bool q1,.int .i64 (x.kind:Int),.int .i64 x.n,.string ⟨x.name.toArray⟩,.string ⟨x.label.toArray⟩,.slice xa1 xn1 xc1,.slice xa2 xn2 xc2,.slice xa3 xn3 xc3,.slice xa4 xn4 xc4,.slice xa5 xn5 xc5,.bool false,.int .i64 0,.int .i64 0,.string ⟨#[]⟩,.string ⟨#[]⟩,.slice none 0 0,.slice none 0 0,.slice none 0 0,.slice none 0 0,.slice none 0 0,.bool false,.slice none 0 0] rfl rfl HR34.out (by simp) (by kernel_rfl) (by simp [Value.oneCell']) ?_))
      refine Named.mk (fun wf hWf=>?_)
      clear y70
      go_wp2
      exact dv_end (P:=fun k=>w.heap.size + 2 ≤ k∧k ≠ w13.heap.size) (d:=⟨s,q1,x,false,.zero,false,[]⟩) Tryz.results107 rfl rfl HR34.out rfl (DvF.mk HVx34.out AstF.zero (RowL.nil _ _ _)) (by show ¬ _;omega) (by intro k hk;have hk2:=hk.1;omega) (by omega) hp1 HP34.out HF34.out HZ.out.symm hWf
end Go.Proofs.YtpoghableadkcaaGreatDoor
