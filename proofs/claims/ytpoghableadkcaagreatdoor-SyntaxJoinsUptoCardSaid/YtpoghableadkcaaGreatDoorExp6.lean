/- The walk of arg (printed by mkexp6.py). -/
import Derived.Test.YtpoghableadkcaaGreatDoorExp5
namespace Go.Proofs.YtpoghableadkcaaGreatDoor
open Go.RowKit
set_option linter.unusedVariables false
set_option linter.unusedSimpArgs false

theorem outArg {fn:Func} {s:Nat} {tmps:Array Value} {W:World} {b:Nat} {x0 x1 x2 x3 x4 x5 x6 x7 x8 x9 x10:Value} (hf:fn.results=#[.cell s 116]) (h:Holds W b 116 [x0,x1,x2,x3,x4,x5,x6,x7,x8,x9,x10]) (hs:tmps[s]?.getD undef=.pointer (some ⟨b,0,none⟩)):
  (results fn tmps).run Tryz.prog W=.ok (.agg #[x0,x1,x2,x3,x4,x5,x6,x7,x8,x9,x10]) W:=by
 have d0:W.cell? ⟨b,0,none⟩=some x0:=h.cell 0
 have d1:W.cell? ⟨b,1,none⟩=some x1:=h.cell 1
 have d2:W.cell? ⟨b,2,none⟩=some x2:=h.cell 2
 have d3:W.cell? ⟨b,3,none⟩=some x3:=h.cell 3
 have d4:W.cell? ⟨b,4,none⟩=some x4:=h.cell 4
 have d5:W.cell? ⟨b,5,none⟩=some x5:=h.cell 5
 have d6:W.cell? ⟨b,6,none⟩=some x6:=h.cell 6
 have d7:W.cell? ⟨b,7,none⟩=some x7:=h.cell 7
 have d8:W.cell? ⟨b,8,none⟩=some x8:=h.cell 8
 have d9:W.cell? ⟨b,9,none⟩=some x9:=h.cell 9
 have d10:W.cell? ⟨b,10,none⟩=some x10:=h.cell 10
 simp [results,hf,hs,go_sem,d0,d1,d2,d3,d4,d5,d6,d7,d8,d9,d10]
def setArg (W:World) (b:Nat) (u0 u1 x0 x1 x2 x3 x4 x5 x6 x7 x8:Value):World:=
 ((((((((((W.setCell ⟨b,0,none⟩ u0).setCell ⟨b,1,none⟩ u1).setCell ⟨b,2,none⟩ x0).setCell ⟨b,3,none⟩ x1).setCell ⟨b,4,none⟩ x2).setCell ⟨b,5,none⟩ x3).setCell ⟨b,6,none⟩ x4).setCell ⟨b,7,none⟩ x5).setCell ⟨b,8,none⟩ x6).setCell ⟨b,9,none⟩ x7).setCell ⟨b,10,none⟩ x8
theorem setArg_R {W:World} {b:Nat} {u0 u1 x0 x1 x2 x3 x4 x5 x6 x7 x8:Value}:setArg W b u0 u1 x0 x1 x2 x3 x4 x5 x6 x7 x8=setR W b 0 [u0,u1,x0,x1,x2,x3,x4,x5,x6,x7,x8]:=rfl
set_option maxHeartbeats 2000000 in
/-- The end of a method that stores an argument as its answer. -/
theorem arg_end {fn:Func} {s:Nat} (hf:fn.results=#[.cell s 116]) {w W:World} {p j b:Nat} {P:Nat→Prop} {vl:Value} {E:Env} {a:Act} {u0 u1 x0 x1 x2 x3 z0 z1 y0 y1 y2 y3 y4 y5 y6 y7 y8 vn vi vh vk va:Value} {m any:Bool} {x:Ast} {r:R Arg}
  (hs:a.tmps[s]?.getD undef=.pointer (some ⟨b,0,none⟩)) (hd:a.defers=[])
  (hH:Holds W b 116 [z0,z1,y0,y1,y2,y3,y4,y5,y6,y7,y8]) (hv:AstF P W x vn vi vh vk va) (hnb:¬ P b) (hP:∀ k,P k→w.heap.size ≤ k) (hw:w.heap.size ≤ b) (hp:p < w.heap.size) (HP:Par W p vl E j) (HF:Fp p w W) (hR:r=.ok (.mk m any x) j)
  (hu0:u0=.bool m) (hu1:u1=.bool any) (h0:x0=.int .i64 (x.kind:Int)) (h1:x1=.int .i64 x.n) (h2:x2=.string ⟨x.name.toArray⟩) (h3:x3=.string ⟨x.label.toArray⟩):
  bodyPost Tryz.prog fn (Out p vl E w (ArgV (From w.heap.size)) r) Exit.ret a (setArg W b u0 u1 x0 x1 x2 x3 vn vi vh vk va):=by
 have hh:Holds (setArg W b u0 u1 x0 x1 x2 x3 vn vi vh vk va) b 116 [u0,u1,x0,x1,x2,x3,vn,vi,vh,vk,va]:=by rw [setArg_R];exact Holds.setR [u0,u1,x0,x1,x2,x3,vn,vi,vh,vk,va] 0 hH
 refine bodyPost_ret (outArg hf hh hs) hd ?_
 rw [hR,hu0,hu1,h0,h1,h2,h3,setArg_R]
 refine ⟨_,rfl,⟨vn,vi,vh,vk,va,rfl,(hv.up (Keep.setR hnb _ _)).mono (fun k hk _=>hP k hk)⟩,Par.setR (by omega) _ _ HP,Fp.setR hw _ _ HF⟩
theorem AstF.zero {P:Nat→Prop} {w:World}:AstF P w .zero (.slice none 0 0) (.slice none 0 0) (.slice none 0 0) (.slice none 0 0) (.slice none 0 0):=by unfold Ast.zero;exact AstF.nils

set_option maxHeartbeats 4000000 in
set_option maxRecDepth 100000 in
theorem argFn {E:Env} {f:Nat} (ih:ExprOk E f) {w:World} {p i:Nat} {vl:Value} (hP:Par w p vl E i) (hne:arg E (f + 1) i ≠ .out):
  Calls Tryz.prog 161 #[.pointer (some ⟨p,0,none⟩)] w (Out p vl E w (ArgV (From w.heap.size)) (arg E (f + 1) i)):=by

 have hp1:=hP.lt
 have hfew:=hP.few
 have hb0:Below w.heap.size w (w.alloc (.cells #[.bool false,.bool false,.int .i64 0,.int .i64 0,.string ⟨#[]⟩,.string ⟨#[]⟩,.slice none 0 0,.slice none 0 0,.slice none 0 0,.slice none 0 0,.slice none 0 0] 116)):=(Below.refl _ _).alloc (Nat.le_refl _) _
 have HP0:=Lib.hid (hP.belowAll hb0)
 have HB0:=Lib.hid (Holds.new w 116 #[.bool false,.bool false,.int .i64 0,.int .i64 0,.string ⟨#[]⟩,.string ⟨#[]⟩,.slice none 0 0,.slice none 0 0,.slice none 0 0,.slice none 0 0,.slice none 0 0])
 have HF0:=Lib.hid (Fp.of_below (p:=p) hb0)
 obtain ⟨Rr,hRr⟩:∃ Rr,arg E (f + 1) i=Rr:=⟨_,rfl⟩
 rw [hRr] at hne ⊢
 have HNE:=Lib.hid hne
 rw [arg] at hRr
 have hi2:i ≤ 65536:=Nat.le_trans hP.le hfew
 clear hP hb0 hne
 go_enter Tryz.func161,Tryz.ntmps161
 have hL:=Holds.new (w.alloc (.cells #[.bool false,.bool false,.int .i64 0,.int .i64 0,.string ⟨#[]⟩,.string ⟨#[]⟩,.slice none 0 0,.slice none 0 0,.slice none 0 0,.slice none 0 0,.slice none 0 0] 116)) 9 #[.string ⟨#[95]⟩]
 rw [show (w.alloc (.cells #[.bool false,.bool false,.int .i64 0,.int .i64 0,.string ⟨#[]⟩,.string ⟨#[]⟩,.slice none 0 0,.slice none 0 0,.slice none 0 0,.slice none 0 0,.slice none 0 0] 116)).heap.size=w.heap.size + 1 by simp [World.setCell]] at hL
 have HL:=Lib.hid hL
 clear hL
 have hba:Below (w.alloc (.cells #[.bool false,.bool false,.int .i64 0,.int .i64 0,.string ⟨#[]⟩,.string ⟨#[]⟩,.slice none 0 0,.slice none 0 0,.slice none 0 0,.slice none 0 0,.slice none 0 0] 116)).heap.size (w.alloc (.cells #[.bool false,.bool false,.int .i64 0,.int .i64 0,.string ⟨#[]⟩,.string ⟨#[]⟩,.slice none 0 0,.slice none 0 0,.slice none 0 0,.slice none 0 0,.slice none 0 0] 116)) ((w.alloc (.cells #[.bool false,.bool false,.int .i64 0,.int .i64 0,.string ⟨#[]⟩,.string ⟨#[]⟩,.slice none 0 0,.slice none 0 0,.slice none 0 0,.slice none 0 0,.slice none 0 0] 116)).alloc (.cells #[.string ⟨#[95]⟩] 9)):=(Below.refl _ _).alloc (Nat.le_refl _) _
 have HP11:=Lib.hid (HP0.out.belowAll hba)
 have HF11:=Lib.hid (HF0.out.bel hba)
 have HB11:=Lib.hid (HB0.out.belowAll hba)
 clear HP0 HF0 HB0
 clear hba
 cases hs:sees E i [[95]] with
 | true=>
  rw [if_pos hs] at hRr
  have HT:=Lib.hid (takes_yes HP11.out [[95]] HL.out (by simp) hs)
  clear hs HL
  have HQ:=Lib.hid hRr
  clear hRr
  go_wp2_with (fail)
  refine (HT.out).mono ?_
  rintro e w12 ⟨rfl,hPq,hFq⟩
  have hRr:=HQ.out
  clear HQ
  have HP12:=Lib.hid hPq
  have HF12:=Lib.hid (HF11.out.trans hFq)
  have HB12:=Lib.hid (HB11.out.fp hFq (by omega))
  clear HP11 HF11 HB11
  clear hPq hFq HT
  have d0:w12.cell? ⟨w.heap.size,0,none⟩=some (.bool false):=HB12.out.cell 0
  have g0:w12.frozen? ⟨w.heap.size,0,none⟩=false:=HB12.out.free 0
  have d1:w12.cell? ⟨w.heap.size,1,none⟩=some (.bool false):=HB12.out.cell 1
  have g1:w12.frozen? ⟨w.heap.size,1,none⟩=false:=HB12.out.free 1
  have d2:w12.cell? ⟨w.heap.size,2,none⟩=some (.int .i64 0):=HB12.out.cell 2
  have g2:w12.frozen? ⟨w.heap.size,2,none⟩=false:=HB12.out.free 2
  have d3:w12.cell? ⟨w.heap.size,3,none⟩=some (.int .i64 0):=HB12.out.cell 3
  have g3:w12.frozen? ⟨w.heap.size,3,none⟩=false:=HB12.out.free 3
  have d4:w12.cell? ⟨w.heap.size,4,none⟩=some (.string ⟨#[]⟩):=HB12.out.cell 4
  have g4:w12.frozen? ⟨w.heap.size,4,none⟩=false:=HB12.out.free 4
  have d5:w12.cell? ⟨w.heap.size,5,none⟩=some (.string ⟨#[]⟩):=HB12.out.cell 5
  have g5:w12.frozen? ⟨w.heap.size,5,none⟩=false:=HB12.out.free 5
  have d6:w12.cell? ⟨w.heap.size,6,none⟩=some (.slice none 0 0):=HB12.out.cell 6
  have g6:w12.frozen? ⟨w.heap.size,6,none⟩=false:=HB12.out.free 6
  have d7:w12.cell? ⟨w.heap.size,7,none⟩=some (.slice none 0 0):=HB12.out.cell 7
  have g7:w12.frozen? ⟨w.heap.size,7,none⟩=false:=HB12.out.free 7
  have d8:w12.cell? ⟨w.heap.size,8,none⟩=some (.slice none 0 0):=HB12.out.cell 8
  have g8:w12.frozen? ⟨w.heap.size,8,none⟩=false:=HB12.out.free 8
  have d9:w12.cell? ⟨w.heap.size,9,none⟩=some (.slice none 0 0):=HB12.out.cell 9
  have g9:w12.frozen? ⟨w.heap.size,9,none⟩=false:=HB12.out.free 9
  have d10:w12.cell? ⟨w.heap.size,10,none⟩=some (.slice none 0 0):=HB12.out.cell 10
  have g10:w12.frozen? ⟨w.heap.size,10,none⟩=false:=HB12.out.free 10
  have HZ:=Lib.hid hRr
  clear hRr
  go_wp2
  exact arg_end (x:=.zero) (m:=false) (any:=true) (P:=(fun _=>False)) Tryz.results161 rfl rfl HB12.out AstF.zero (by simp) (by intro k hk;exact hk.elim) (Nat.le_refl _) hp1 HP12.out HF12.out HZ.out.symm rfl rfl rfl rfl rfl rfl
 | false=>
  rw [if_neg (by rw [hs];decide)] at hRr
  have HT:=Lib.hid (takes_no HP11.out [[95]] HL.out (by simp) hs)
  clear hs HL
  have HQ:=Lib.hid hRr
  clear hRr
  go_wp2_with (fail)
  refine (HT.out).mono ?_
  rintro e w12 ⟨rfl,hbq⟩
  have hRr:=HQ.out
  clear HQ
  have HP12:=Lib.hid (HP11.out.belowAll hbq)
  have HF12:=Lib.hid (HF11.out.bel hbq)
  have HB12:=Lib.hid (HB11.out.belowAll hbq)
  clear HP11 HF11 HB11
  clear hbq HT
  have hL:=Holds.new w12 9 #[.string ⟨#[101,118,97,108]⟩]
  have HL:=Lib.hid hL
  clear hL
  have hba:Below w12.heap.size w12 (w12.alloc (.cells #[.string ⟨#[101,118,97,108]⟩] 9)):=(Below.refl _ _).alloc (Nat.le_refl _) _
  have HP13:=Lib.hid (HP12.out.belowAll hba)
  have HF13:=Lib.hid (HF12.out.bel hba)
  have HB13:=Lib.hid (HB12.out.belowAll hba)
  clear HP12 HF12 HB12
  clear hba
  cases hs:sees E i [[101,118,97,108]] with
  | true=>
   rw [if_pos hs] at hRr
   have HT:=Lib.hid (takes_yes HP13.out [[101,118,97,108]] HL.out (by simp) hs)
   clear hs HL
   have HQ:=Lib.hid hRr
   clear hRr
   go_wp2_with (fail)
   refine (HT.out).mono ?_
   rintro e w14 ⟨rfl,hPq,hFq⟩
   have hRr:=HQ.out
   clear HQ
   have HP14:=Lib.hid hPq
   have HF14:=Lib.hid (HF13.out.trans hFq)
   have HB14:=Lib.hid (HB13.out.fp hFq (by omega))
   clear HP13 HF13 HB13
   clear hPq hFq HT
   have HC':=needFn HP14.out [40]
   cases h1:need E [40] (i + 1) with
   | out=>exact absurd h1 need_ne
   | bad c a=>
    rw [h1] at HC' hRr
    have HC:=Lib.hid HC'
    have HR:=Lib.hid hRr
    clear h1 HC' hRr 
    go_wp2_with (fail)
    refine (HC.out).mono ?_
    rintro e wz ⟨rfl,hF⟩
    rw [← HR.out]
    exact ⟨rfl,rfl,HF14.out.trans hF⟩
   | ok u j2=>
    rw [h1] at HC' hRr
    have HC:=Lib.hid HC'
    have HR:=Lib.hid hRr
    clear h1 HC' hRr
    go_wp2_with (fail)
    refine (HC.out).mono ?_
    rintro e w15 ⟨vw15,rfl,hv,hPq,hFq⟩
    have hRr:=HR.out
    try simp only [R.bd] at hRr
    have HP15:=Lib.hid hPq
    have HF15:=Lib.hid (HF14.out.trans hFq)
    have HB15:=Lib.hid (HB14.out.fp hFq (by omega))
    clear HP14 HF14 HB14
    clear hPq hFq HR HC
    obtain rfl:=hv
    have hsz:w.heap.size < w15.heap.size:=HB15.out.lt
    have HC':=ih.expr (lvl:=0) HP15.out (by omega) (fun h=>by rw [h] at hRr;exact HNE.out hRr.symm)
    cases h1:expr E f 0 j2 with
    | out=>exact absurd h1 (fun h=>by rw [h] at hRr;exact HNE.out hRr.symm)
    | bad c a=>
     rw [h1] at HC' hRr
     have HC:=Lib.hid HC'
     have HR:=Lib.hid hRr
     clear h1 HC' hRr 
     go_wp2_with (fail)
     refine (HC.out).mono ?_
     rintro e wz ⟨rfl,hF⟩
     rw [← HR.out]
     exact ⟨rfl,rfl,HF15.out.trans hF⟩
    | ok x j3=>
     rw [h1] at HC' hRr
     have HC:=Lib.hid HC'
     have HR:=Lib.hid hRr
     clear h1 HC' hRr
     go_wp2_with (fail)
     refine (HC.out).mono ?_
     rintro e w16 ⟨vw16,rfl,⟨vn,vi,vh,vk,va,rfl,hvx⟩,hPq,hFq⟩
     obtain ⟨za1,zn1,zc1,za2,zn2,zc2,za3,zn3,zc3,za4,zn4,zc4,za5,zn5,zc5,rfl,rfl,rfl,rfl,rfl⟩:=hvx.forms
     unfold Ast.val
     have hRr:=HR.out
     try simp only [R.bd] at hRr
     have HP16:=Lib.hid hPq
     have HF16:=Lib.hid (HF15.out.trans hFq)
     have HB16:=Lib.hid (HB15.out.fp hFq (by omega))
     clear HP15 HF15 HB15
     clear hPq hFq HR HC
     have HVx16:=Lib.hid hvx
     clear hvx
     have hszA:w.heap.size < w16.heap.size:=HB16.out.lt
     have hba:Below w16.heap.size w16 (w16.alloc (.cells #[.int .i64 (x.kind:Int),.int .i64 x.n,.string ⟨x.name.toArray⟩,.string ⟨x.label.toArray⟩,.slice za1 zn1 zc1,.slice za2 zn2 zc2,.slice za3 zn3 zc3,.slice za4 zn4 zc4,.slice za5 zn5 zc5] 41)):=(Below.refl _ _).alloc (Nat.le_refl _) _
     have hbn:=Holds.new w16 41 #[.int .i64 (x.kind:Int),.int .i64 x.n,.string ⟨x.name.toArray⟩,.string ⟨x.label.toArray⟩,.slice za1 zn1 zc1,.slice za2 zn2 zc2,.slice za3 zn3 zc3,.slice za4 zn4 zc4,.slice za5 zn5 zc5]
     have HP17:=Lib.hid (HP16.out.belowAll hba)
     have HF17:=Lib.hid (HF16.out.bel hba)
     have HB17:=Lib.hid (HB16.out.belowAll hba)
     have HVx17:=Lib.hid (HVx16.out.up (Keep.below hba))
     clear HP16 HF16 HB16 HVx16
     have HA17:=Lib.hid hbn
     clear hbn
     clear hba
     have HC':=needFn HP17.out [41]
     cases h1:need E [41] j3 with
     | out=>exact absurd h1 need_ne
     | bad c a=>
      rw [h1] at HC' hRr
      have HC:=Lib.hid HC'
      have HR:=Lib.hid hRr
      clear h1 HC' hRr 
      go_wp2_with (fail)
      refine (HC.out).mono ?_
      rintro e wz ⟨rfl,hF⟩
      rw [← HR.out]
      exact ⟨rfl,rfl,HF17.out.trans hF⟩
     | ok u j4=>
      rw [h1] at HC' hRr
      have HC:=Lib.hid HC'
      have HR:=Lib.hid hRr
      clear h1 HC' hRr
      go_wp2_with (fail)
      refine (HC.out).mono ?_
      rintro e w18 ⟨vw18,rfl,hv,hPq,hFq⟩
      have hRr:=HR.out
      try simp only [R.bd] at hRr
      have HP18:=Lib.hid hPq
      have HF18:=Lib.hid (HF17.out.trans hFq)
      have HB18:=Lib.hid (HB17.out.fp hFq (by omega))
      have HA18:=Lib.hid (HA17.out.fp hFq (by omega))
      have HVx18:=Lib.hid (HVx17.out.up (Keep.of_fp hFq (by show ¬ _;omega)))
      clear HP17 HF17 HB17 HA17 HVx17
      clear hPq hFq HR HC
      obtain rfl:=hv
      have l0:w18.cell? ⟨w16.heap.size,0,none⟩=some (.int .i64 (x.kind:Int)):=HA18.out.cell 0
      have l1:w18.cell? ⟨w16.heap.size,1,none⟩=some (.int .i64 x.n):=HA18.out.cell 1
      have l2:w18.cell? ⟨w16.heap.size,2,none⟩=some (.string ⟨x.name.toArray⟩):=HA18.out.cell 2
      have l3:w18.cell? ⟨w16.heap.size,3,none⟩=some (.string ⟨x.label.toArray⟩):=HA18.out.cell 3
      have l4:w18.cell? ⟨w16.heap.size,4,none⟩=some (.slice za1 zn1 zc1):=HA18.out.cell 4
      have l5:w18.cell? ⟨w16.heap.size,5,none⟩=some (.slice za2 zn2 zc2):=HA18.out.cell 5
      have l6:w18.cell? ⟨w16.heap.size,6,none⟩=some (.slice za3 zn3 zc3):=HA18.out.cell 6
      have l7:w18.cell? ⟨w16.heap.size,7,none⟩=some (.slice za4 zn4 zc4):=HA18.out.cell 7
      have l8:w18.cell? ⟨w16.heap.size,8,none⟩=some (.slice za5 zn5 zc5):=HA18.out.cell 8
      have d0:w18.cell? ⟨w.heap.size,0,none⟩=some (.bool false):=HB18.out.cell 0
      have g0:w18.frozen? ⟨w.heap.size,0,none⟩=false:=HB18.out.free 0
      have d1:w18.cell? ⟨w.heap.size,1,none⟩=some (.bool false):=HB18.out.cell 1
      have g1:w18.frozen? ⟨w.heap.size,1,none⟩=false:=HB18.out.free 1
      have d2:w18.cell? ⟨w.heap.size,2,none⟩=some (.int .i64 0):=HB18.out.cell 2
      have g2:w18.frozen? ⟨w.heap.size,2,none⟩=false:=HB18.out.free 2
      have d3:w18.cell? ⟨w.heap.size,3,none⟩=some (.int .i64 0):=HB18.out.cell 3
      have g3:w18.frozen? ⟨w.heap.size,3,none⟩=false:=HB18.out.free 3
      have d4:w18.cell? ⟨w.heap.size,4,none⟩=some (.string ⟨#[]⟩):=HB18.out.cell 4
      have g4:w18.frozen? ⟨w.heap.size,4,none⟩=false:=HB18.out.free 4
      have d5:w18.cell? ⟨w.heap.size,5,none⟩=some (.string ⟨#[]⟩):=HB18.out.cell 5
      have g5:w18.frozen? ⟨w.heap.size,5,none⟩=false:=HB18.out.free 5
      have d6:w18.cell? ⟨w.heap.size,6,none⟩=some (.slice none 0 0):=HB18.out.cell 6
      have g6:w18.frozen? ⟨w.heap.size,6,none⟩=false:=HB18.out.free 6
      have d7:w18.cell? ⟨w.heap.size,7,none⟩=some (.slice none 0 0):=HB18.out.cell 7
      have g7:w18.frozen? ⟨w.heap.size,7,none⟩=false:=HB18.out.free 7
      have d8:w18.cell? ⟨w.heap.size,8,none⟩=some (.slice none 0 0):=HB18.out.cell 8
      have g8:w18.frozen? ⟨w.heap.size,8,none⟩=false:=HB18.out.free 8
      have d9:w18.cell? ⟨w.heap.size,9,none⟩=some (.slice none 0 0):=HB18.out.cell 9
      have g9:w18.frozen? ⟨w.heap.size,9,none⟩=false:=HB18.out.free 9
      have d10:w18.cell? ⟨w.heap.size,10,none⟩=some (.slice none 0 0):=HB18.out.cell 10
      have g10:w18.frozen? ⟨w.heap.size,10,none⟩=false:=HB18.out.free 10
      have HZ:=Lib.hid hRr
      clear hRr
      go_wp2
      exact arg_end (x:=x) (m:=true) (any:=false) (P:=From w15.heap.size) Tryz.results161 rfl rfl HB18.out HVx18.out (by show ¬ _;omega) (by intro k hk;have hk2:_ ≤ k:=hk;omega) (Nat.le_refl _) hp1 HP18.out HF18.out HZ.out.symm rfl rfl rfl rfl rfl rfl
  | false=>
   rw [if_neg (by rw [hs];decide)] at hRr
   have HT:=Lib.hid (takes_no HP13.out [[101,118,97,108]] HL.out (by simp) hs)
   clear hs HL
   have HQ:=Lib.hid hRr
   clear hRr
   go_wp2_with (fail)
   refine (HT.out).mono ?_
   rintro e w14 ⟨rfl,hbq⟩
   have hRr:=HQ.out
   clear HQ
   have HP14:=Lib.hid (HP13.out.belowAll hbq)
   have HF14:=Lib.hid (HF13.out.bel hbq)
   have HB14:=Lib.hid (HB13.out.belowAll hbq)
   clear HP13 HF13 HB13
   clear hbq HT
   by_cases hk:kindAt E i=1
   ·have hI:=isFn HP14.out 1
    rw [decide_eq_true hk] at hI
    have HI:=Lib.hid hI
    rw [if_pos hk] at hRr
    clear hI
    have HQ:=Lib.hid hRr
    have HK:=Lib.hid hk
    clear hRr hk
    go_wp2_with (fail)
    refine (HI.out).mono ?_
    rintro e w19 ⟨rfl,hbq⟩
    have hRr:=HQ.out
    have hk:=HK.out
    clear HQ HK
    have HP19:=Lib.hid (HP14.out.belowAll hbq)
    have HF19:=Lib.hid (HF14.out.bel hbq)
    have HB19:=Lib.hid (HB14.out.belowAll hbq)
    clear HP14 HF14 HB14
    clear hbq HI
    have hsz:w.heap.size < w19.heap.size:=HB19.out.lt
    have HC':=ih.ref HP19.out (fun h=>by rw [h] at hRr;exact HNE.out hRr.symm)
    cases h1:ref E f i with
    | out=>exact absurd h1 (fun h=>by rw [h] at hRr;exact HNE.out hRr.symm)
    | bad c a=>
     rw [h1] at HC' hRr
     have HC:=Lib.hid HC'
     have HR:=Lib.hid hRr
     clear h1 HC' hRr 
     go_wp2_with (fail)
     refine (HC.out).mono ?_
     rintro e wz ⟨rfl,hF⟩
     rw [← HR.out]
     exact ⟨rfl,rfl,HF19.out.trans hF⟩
    | ok x j2=>
     rw [h1] at HC' hRr
     have HC:=Lib.hid HC'
     have HR:=Lib.hid hRr
     clear h1 HC' hRr
     go_wp2_with (fail)
     refine (HC.out).mono ?_
     rintro e w20 ⟨vw20,rfl,⟨vn,vi,vh,rfl,hv⟩,hPq,hFq⟩
     obtain ⟨ra1,rn1,rc1,ra2,rn2,rc2,ra3,rn3,rc3,rfl,rfl,rfl⟩:=RfF.forms hv
     have hRr:=HR.out
     try simp only [R.bd] at hRr
     have HP20:=Lib.hid hPq
     have HF20:=Lib.hid (HF19.out.trans hFq)
     have HB20:=Lib.hid (HB19.out.fp hFq (by omega))
     clear HP19 HF19 HB19
     clear hPq hFq HR HC
     have HV20:=Lib.hid (show RfF _ _ _ _ _ _ from hv)
     clear hv
     have d0:w20.cell? ⟨w.heap.size,0,none⟩=some (.bool false):=HB20.out.cell 0
     have g0:w20.frozen? ⟨w.heap.size,0,none⟩=false:=HB20.out.free 0
     have d1:w20.cell? ⟨w.heap.size,1,none⟩=some (.bool false):=HB20.out.cell 1
     have g1:w20.frozen? ⟨w.heap.size,1,none⟩=false:=HB20.out.free 1
     have d2:w20.cell? ⟨w.heap.size,2,none⟩=some (.int .i64 0):=HB20.out.cell 2
     have g2:w20.frozen? ⟨w.heap.size,2,none⟩=false:=HB20.out.free 2
     have d3:w20.cell? ⟨w.heap.size,3,none⟩=some (.int .i64 0):=HB20.out.cell 3
     have g3:w20.frozen? ⟨w.heap.size,3,none⟩=false:=HB20.out.free 3
     have d4:w20.cell? ⟨w.heap.size,4,none⟩=some (.string ⟨#[]⟩):=HB20.out.cell 4
     have g4:w20.frozen? ⟨w.heap.size,4,none⟩=false:=HB20.out.free 4
     have d5:w20.cell? ⟨w.heap.size,5,none⟩=some (.string ⟨#[]⟩):=HB20.out.cell 5
     have g5:w20.frozen? ⟨w.heap.size,5,none⟩=false:=HB20.out.free 5
     have d6:w20.cell? ⟨w.heap.size,6,none⟩=some (.slice none 0 0):=HB20.out.cell 6
     have g6:w20.frozen? ⟨w.heap.size,6,none⟩=false:=HB20.out.free 6
     have d7:w20.cell? ⟨w.heap.size,7,none⟩=some (.slice none 0 0):=HB20.out.cell 7
     have g7:w20.frozen? ⟨w.heap.size,7,none⟩=false:=HB20.out.free 7
     have d8:w20.cell? ⟨w.heap.size,8,none⟩=some (.slice none 0 0):=HB20.out.cell 8
     have g8:w20.frozen? ⟨w.heap.size,8,none⟩=false:=HB20.out.free 8
     have d9:w20.cell? ⟨w.heap.size,9,none⟩=some (.slice none 0 0):=HB20.out.cell 9
     have g9:w20.frozen? ⟨w.heap.size,9,none⟩=false:=HB20.out.free 9
     have d10:w20.cell? ⟨w.heap.size,10,none⟩=some (.slice none 0 0):=HB20.out.cell 10
     have g10:w20.frozen? ⟨w.heap.size,10,none⟩=false:=HB20.out.free 10
     have HZ:=Lib.hid hRr
     clear hRr
     go_wp2
     exact arg_end (x:=.ofRef x) (m:=false) (any:=false) (P:=From w19.heap.size) Tryz.results161 rfl rfl HB20.out (by unfold Ast.ofRef;exact HV20.out.ast) (by show ¬ _;omega) (by intro k hk;have hk2:_ ≤ k:=hk;omega) (Nat.le_refl _) hp1 HP20.out HF20.out HZ.out.symm rfl rfl rfl rfl rfl rfl
   ·have hI:=isFn HP14.out 1
    rw [decide_eq_false hk] at hI
    have HI:=Lib.hid hI
    rw [if_neg hk] at hRr
    clear hI
    have HQ:=Lib.hid hRr
    have HK:=Lib.hid hk
    clear hRr hk
    go_wp2_with (fail)
    refine (HI.out).mono ?_
    rintro e w19 ⟨rfl,hbq⟩
    have hRr:=HQ.out
    have hk:=HK.out
    clear HQ HK
    have HP19:=Lib.hid (HP14.out.belowAll hbq)
    have HF19:=Lib.hid (HF14.out.bel hbq)
    have HB19:=Lib.hid (HB14.out.belowAll hbq)
    clear HP14 HF14 HB14
    clear hbq HI
    by_cases hk:kindAt E i=2
    ·have hI:=isFn HP19.out 2
     rw [decide_eq_true hk] at hI
     have HI:=Lib.hid hI
     rw [if_pos (by rw [decide_eq_true hk,Bool.true_or])] at hRr
     clear hI
     have HQ:=Lib.hid hRr
     have HK:=Lib.hid hk
     clear hRr hk
     go_wp2_with (fail)
     refine (HI.out).mono ?_
     rintro e w21 ⟨rfl,hbq⟩
     have hRr:=HQ.out
     have hk:=HK.out
     clear HQ HK
     have HP21:=Lib.hid (HP19.out.belowAll hbq)
     have HF21:=Lib.hid (HF19.out.bel hbq)
     have HB21:=Lib.hid (HB19.out.belowAll hbq)
     clear HP19 HF19 HB19
     clear hbq HI
     have hsz:w.heap.size < w21.heap.size:=HB21.out.lt
     have HC':=ih.unary HP21.out (fun h=>by rw [h] at hRr;exact HNE.out hRr.symm)
     cases h1:unary E f i with
     | out=>exact absurd h1 (fun h=>by rw [h] at hRr;exact HNE.out hRr.symm)
     | bad c a=>
      rw [h1] at HC' hRr
      have HC:=Lib.hid HC'
      have HR:=Lib.hid hRr
      clear h1 HC' hRr ih
      go_wp2_with (fail)
      refine (HC.out).mono ?_
      rintro e wz ⟨rfl,hF⟩
      rw [← HR.out]
      exact ⟨rfl,rfl,HF21.out.trans hF⟩
     | ok x j2=>
      rw [h1] at HC' hRr
      have HC:=Lib.hid HC'
      have HR:=Lib.hid hRr
      clear h1 HC' hRr
      go_wp2_with (fail)
      refine (HC.out).mono ?_
      rintro e w22 ⟨vw22,rfl,⟨vn,vi,vh,vk,va,rfl,hvx⟩,hPq,hFq⟩
      obtain ⟨za1,zn1,zc1,za2,zn2,zc2,za3,zn3,zc3,za4,zn4,zc4,za5,zn5,zc5,rfl,rfl,rfl,rfl,rfl⟩:=hvx.forms
      unfold Ast.val
      have hRr:=HR.out
      try simp only [R.bd] at hRr
      have HP22:=Lib.hid hPq
      have HF22:=Lib.hid (HF21.out.trans hFq)
      have HB22:=Lib.hid (HB21.out.fp hFq (by omega))
      clear HP21 HF21 HB21
      clear hPq hFq HR HC
      have HVx22:=Lib.hid hvx
      clear hvx
      have d0:w22.cell? ⟨w.heap.size,0,none⟩=some (.bool false):=HB22.out.cell 0
      have g0:w22.frozen? ⟨w.heap.size,0,none⟩=false:=HB22.out.free 0
      have d1:w22.cell? ⟨w.heap.size,1,none⟩=some (.bool false):=HB22.out.cell 1
      have g1:w22.frozen? ⟨w.heap.size,1,none⟩=false:=HB22.out.free 1
      have d2:w22.cell? ⟨w.heap.size,2,none⟩=some (.int .i64 0):=HB22.out.cell 2
      have g2:w22.frozen? ⟨w.heap.size,2,none⟩=false:=HB22.out.free 2
      have d3:w22.cell? ⟨w.heap.size,3,none⟩=some (.int .i64 0):=HB22.out.cell 3
      have g3:w22.frozen? ⟨w.heap.size,3,none⟩=false:=HB22.out.free 3
      have d4:w22.cell? ⟨w.heap.size,4,none⟩=some (.string ⟨#[]⟩):=HB22.out.cell 4
      have g4:w22.frozen? ⟨w.heap.size,4,none⟩=false:=HB22.out.free 4
      have d5:w22.cell? ⟨w.heap.size,5,none⟩=some (.string ⟨#[]⟩):=HB22.out.cell 5
      have g5:w22.frozen? ⟨w.heap.size,5,none⟩=false:=HB22.out.free 5
      have d6:w22.cell? ⟨w.heap.size,6,none⟩=some (.slice none 0 0):=HB22.out.cell 6
      have g6:w22.frozen? ⟨w.heap.size,6,none⟩=false:=HB22.out.free 6
      have d7:w22.cell? ⟨w.heap.size,7,none⟩=some (.slice none 0 0):=HB22.out.cell 7
      have g7:w22.frozen? ⟨w.heap.size,7,none⟩=false:=HB22.out.free 7
      have d8:w22.cell? ⟨w.heap.size,8,none⟩=some (.slice none 0 0):=HB22.out.cell 8
      have g8:w22.frozen? ⟨w.heap.size,8,none⟩=false:=HB22.out.free 8
      have d9:w22.cell? ⟨w.heap.size,9,none⟩=some (.slice none 0 0):=HB22.out.cell 9
      have g9:w22.frozen? ⟨w.heap.size,9,none⟩=false:=HB22.out.free 9
      have d10:w22.cell? ⟨w.heap.size,10,none⟩=some (.slice none 0 0):=HB22.out.cell 10
      have g10:w22.frozen? ⟨w.heap.size,10,none⟩=false:=HB22.out.free 10
      have HZ:=Lib.hid hRr
      clear hRr
      go_wp2
      exact arg_end (x:=x) (m:=true) (any:=false) (P:=From w21.heap.size) Tryz.results161 rfl rfl HB22.out HVx22.out (by show ¬ _;omega) (by intro k hk;have hk2:_ ≤ k:=hk;omega) (Nat.le_refl _) hp1 HP22.out HF22.out HZ.out.symm rfl rfl rfl rfl rfl rfl
    ·have hI:=isFn HP19.out 2
     rw [decide_eq_false hk] at hI
     have HI:=Lib.hid hI
     clear hI
     have HQ:=Lib.hid hRr
     have HK:=Lib.hid hk
     clear hRr hk
     go_wp2_with (fail)
     refine (HI.out).mono ?_
     rintro e w21 ⟨rfl,hbq⟩
     have hRr:=HQ.out
     have hk:=HK.out
     clear HQ HK
     have HP21:=Lib.hid (HP19.out.belowAll hbq)
     have HF21:=Lib.hid (HF19.out.bel hbq)
     have HB21:=Lib.hid (HB19.out.belowAll hbq)
     clear HP19 HF19 HB19
     clear hbq HI
     have hL:=Holds.new w21 9 #[.string ⟨#[45]⟩,.string ⟨#[116,114,117,101]⟩,.string ⟨#[102,97,108,115,101]⟩]
     have HL:=Lib.hid hL
     clear hL
     have hba:Below w21.heap.size w21 (w21.alloc (.cells #[.string ⟨#[45]⟩,.string ⟨#[116,114,117,101]⟩,.string ⟨#[102,97,108,115,101]⟩] 9)):=(Below.refl _ _).alloc (Nat.le_refl _) _
     have HP23:=Lib.hid (HP21.out.belowAll hba)
     have HF23:=Lib.hid (HF21.out.bel hba)
     have HB23:=Lib.hid (HB21.out.belowAll hba)
     clear HP21 HF21 HB21
     clear hba
     cases hs:sees E i [[45],[116,114,117,101],[102,97,108,115,101]] with
     | true=>
      rw [if_pos (by rw [hs,Bool.or_true])] at hRr
      have hT:=sees0 HP23.out [[45],[116,114,117,101],[102,97,108,115,101]] HL.out (by simp)
      rw [hs] at hT
      have HT:=Lib.hid hT
      clear hT HL
      have HQ:=Lib.hid hRr
      clear hRr
      go_wp2_with (fail)
      refine (HT.out).mono ?_
      rintro e w24 ⟨rfl,hbq⟩
      have hRr:=HQ.out
      clear HQ
      have HP24:=Lib.hid (HP23.out.belowAll hbq)
      have HF24:=Lib.hid (HF23.out.bel hbq)
      have HB24:=Lib.hid (HB23.out.belowAll hbq)
      clear HP23 HF23 HB23
      clear hbq HT
      have hsz:w.heap.size < w24.heap.size:=HB24.out.lt
      have HC':=ih.unary HP24.out (fun h=>by rw [h] at hRr;exact HNE.out hRr.symm)
      cases h1:unary E f i with
      | out=>exact absurd h1 (fun h=>by rw [h] at hRr;exact HNE.out hRr.symm)
      | bad c a=>
       rw [h1] at HC' hRr
       have HC:=Lib.hid HC'
       have HR:=Lib.hid hRr
       clear h1 HC' hRr ih
       go_wp2_with (fail)
       refine (HC.out).mono ?_
       rintro e wz ⟨rfl,hF⟩
       rw [← HR.out]
       exact ⟨rfl,rfl,HF24.out.trans hF⟩
      | ok x j2=>
       rw [h1] at HC' hRr
       have HC:=Lib.hid HC'
       have HR:=Lib.hid hRr
       clear h1 HC' hRr
       go_wp2_with (fail)
       refine (HC.out).mono ?_
       rintro e w25 ⟨vw25,rfl,⟨vn,vi,vh,vk,va,rfl,hvx⟩,hPq,hFq⟩
       obtain ⟨za1,zn1,zc1,za2,zn2,zc2,za3,zn3,zc3,za4,zn4,zc4,za5,zn5,zc5,rfl,rfl,rfl,rfl,rfl⟩:=hvx.forms
       unfold Ast.val
       have hRr:=HR.out
       try simp only [R.bd] at hRr
       have HP25:=Lib.hid hPq
       have HF25:=Lib.hid (HF24.out.trans hFq)
       have HB25:=Lib.hid (HB24.out.fp hFq (by omega))
       clear HP24 HF24 HB24
       clear hPq hFq HR HC
       have HVx25:=Lib.hid hvx
       clear hvx
       have d0:w25.cell? ⟨w.heap.size,0,none⟩=some (.bool false):=HB25.out.cell 0
       have g0:w25.frozen? ⟨w.heap.size,0,none⟩=false:=HB25.out.free 0
       have d1:w25.cell? ⟨w.heap.size,1,none⟩=some (.bool false):=HB25.out.cell 1
       have g1:w25.frozen? ⟨w.heap.size,1,none⟩=false:=HB25.out.free 1
       have d2:w25.cell? ⟨w.heap.size,2,none⟩=some (.int .i64 0):=HB25.out.cell 2
       have g2:w25.frozen? ⟨w.heap.size,2,none⟩=false:=HB25.out.free 2
       have d3:w25.cell? ⟨w.heap.size,3,none⟩=some (.int .i64 0):=HB25.out.cell 3
       have g3:w25.frozen? ⟨w.heap.size,3,none⟩=false:=HB25.out.free 3
       have d4:w25.cell? ⟨w.heap.size,4,none⟩=some (.string ⟨#[]⟩):=HB25.out.cell 4
       have g4:w25.frozen? ⟨w.heap.size,4,none⟩=false:=HB25.out.free 4
       have d5:w25.cell? ⟨w.heap.size,5,none⟩=some (.string ⟨#[]⟩):=HB25.out.cell 5
       have g5:w25.frozen? ⟨w.heap.size,5,none⟩=false:=HB25.out.free 5
       have d6:w25.cell? ⟨w.heap.size,6,none⟩=some (.slice none 0 0):=HB25.out.cell 6
       have g6:w25.frozen? ⟨w.heap.size,6,none⟩=false:=HB25.out.free 6
       have d7:w25.cell? ⟨w.heap.size,7,none⟩=some (.slice none 0 0):=HB25.out.cell 7
       have g7:w25.frozen? ⟨w.heap.size,7,none⟩=false:=HB25.out.free 7
       have d8:w25.cell? ⟨w.heap.size,8,none⟩=some (.slice none 0 0):=HB25.out.cell 8
       have g8:w25.frozen? ⟨w.heap.size,8,none⟩=false:=HB25.out.free 8
       have d9:w25.cell? ⟨w.heap.size,9,none⟩=some (.slice none 0 0):=HB25.out.cell 9
       have g9:w25.frozen? ⟨w.heap.size,9,none⟩=false:=HB25.out.free 9
       have d10:w25.cell? ⟨w.heap.size,10,none⟩=some (.slice none 0 0):=HB25.out.cell 10
       have g10:w25.frozen? ⟨w.heap.size,10,none⟩=false:=HB25.out.free 10
       have HZ:=Lib.hid hRr
       clear hRr
       go_wp2
       exact arg_end (x:=x) (m:=true) (any:=false) (P:=From w24.heap.size) Tryz.results161 rfl rfl HB25.out HVx25.out (by show ¬ _;omega) (by intro k hk;have hk2:_ ≤ k:=hk;omega) (Nat.le_refl _) hp1 HP25.out HF25.out HZ.out.symm rfl rfl rfl rfl rfl rfl
     | false=>
      rw [if_neg (by rw [hs,decide_eq_false hk];decide)] at hRr
      have hT:=sees0 HP23.out [[45],[116,114,117,101],[102,97,108,115,101]] HL.out (by simp)
      rw [hs] at hT
      have HT:=Lib.hid hT
      clear hT HL
      have HQ:=Lib.hid hRr
      clear hRr
      go_wp2_with (fail)
      refine (HT.out).mono ?_
      rintro e w24 ⟨rfl,hbq⟩
      have hRr:=HQ.out
      clear HQ
      have HP24:=Lib.hid (HP23.out.belowAll hbq)
      have HF24:=Lib.hid (HF23.out.bel hbq)
      have HB24:=Lib.hid (HB23.out.belowAll hbq)
      clear HP23 HF23 HB23
      clear hbq HT
      have hw':=wrongFn HP24.out
      rw [wrong_eq] at hRr
      have HC:=Lib.hid hw'
      have HR:=Lib.hid hRr
      clear hw' hRr ih
      go_wp2_with (fail)
      refine (HC.out).mono ?_
      rintro e wz ⟨rfl,hb⟩
      rw [← HR.out]
      exact ⟨rfl,rfl,HF24.out.bel hb⟩
end Go.Proofs.YtpoghableadkcaaGreatDoor
