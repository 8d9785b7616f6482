/- The document's comparison of declarations that are the same, places aside (printed by mksam2.py). -/
import Derived.Test.YtpoghableadkcaaGreatDoorM21
import Derived.Test.YtpoghableadkcaaGreatDoorDep2
import Derived.Test.YtpoghableadkcaaGreatDoorSmS
import Derived.Deep.LoopGhost
namespace Go.Proofs.YtpoghableadkcaaGreatDoor
open Go.RowKit
set_option linter.unusedVariables false
set_option linter.unusedSimpArgs false

set_option maxHeartbeats 4000000 in
set_option maxRecDepth 1000000 in
theorem sameDeclFn {d1 d2:Dcl} (hd:erD d2=erD d1) {P Q:Nat→Prop} {w:World} {c1 c2:List Value} (k1:DclF P w d1 c1) (k2:DclF Q w d2 c2):
  Calls Tryz.prog 23 #[.agg c1.toArray,.agg c2.toArray] w fun e w'=>e=.returned (.bool true)∧Below w.heap.size w w':=by
 obtain ⟨ty2,nm2,vs2,at1⟩:=d1
 obtain ⟨ty,nm,vs,at2⟩:=d2
 simp only [erD,Dcl.mk.injEq,and_true] at hd
 obtain ⟨rfl,rfl,rfl⟩:=hd
 obtain ⟨vv,rfl,ff,r1,g1⟩:=k1
 obtain ⟨vu,rfl,fg,r2,g2⟩:=k2
 obtain ⟨ua,uc,rfl,hu1,hu2,_⟩:=r1.form
 obtain ⟨va,vc,rfl,hv1,hv2,_⟩:=r2.form
 dsimp only at r1 g1 r2 g2 hu1 hv1
 obtain ⟨W,hW⟩:∃ W,W=(w.alloc (.cells #[.int .i64 ty,.string ⟨nm.toArray⟩,.slice ua vs.length uc,.int .i64 (at1:Int)] 50)).alloc (.cells #[.int .i64 ty,.string ⟨nm.toArray⟩,.slice va vs.length vc,.int .i64 (at2:Int)] 50):=⟨_,rfl⟩
 have hB0:Below w.heap.size w W:=by rw [hW];exact ((Below.refl _ _).alloc (Nat.le_refl _) _).alloc (by simp) _
 have hb1:Holds W w.heap.size 50 [.int .i64 ty,.string ⟨nm.toArray⟩,.slice ua vs.length uc,.int .i64 (at1:Int)]:=by rw [hW];exact (Holds.new w 50 #[.int .i64 ty,.string ⟨nm.toArray⟩,.slice ua vs.length uc,.int .i64 (at1:Int)]).alloc _
 have hb2:Holds W (w.heap.size + 1) 50 [.int .i64 ty,.string ⟨nm.toArray⟩,.slice va vs.length vc,.int .i64 (at2:Int)]:=by
  rw [hW]
  have:=Holds.new (w.alloc (.cells #[.int .i64 ty,.string ⟨nm.toArray⟩,.slice ua vs.length uc,.int .i64 (at1:Int)] 50)) 50 #[.int .i64 ty,.string ⟨nm.toArray⟩,.slice va vs.length vc,.int .i64 (at2:Int)]
  rwa [show (w.alloc (.cells #[.int .i64 ty,.string ⟨nm.toArray⟩,.slice ua vs.length uc,.int .i64 (at1:Int)] 50)).heap.size=w.heap.size + 1 by simp] at this
 have H1:=Lib.hid (r1.up (Keep.below hB0))
 have H2:=Lib.hid (r2.up (Keep.below hB0))
 have G1:=Lib.hid (LsF.up (fun _ _=>oneDv.up (Keep.below hB0)) _ g1)
 have G2:=Lib.hid (LsF.up (fun _ _=>oneDv.up (Keep.below hB0)) _ g2)
 obtain ⟨N,hN⟩:∃ N,vs.length=N:=⟨_,rfl⟩
 have HN:=Lib.hid hN
 rw [hN] at hb1 hb2 hW hu1 hv1
 have HX1:=Lib.hid hb1
 have HX2:=Lib.hid hb2
 have HB0:=Lib.hid hB0
 have e0:W.cell? ⟨w.heap.size,0,none⟩=some (.int .i64 ty):=hb1.cell 0
 have q0:W.cell? ⟨w.heap.size + 1,0,none⟩=some (.int .i64 ty):=hb2.cell 0
 have e1:W.cell? ⟨w.heap.size,1,none⟩=some (.string ⟨nm.toArray⟩):=hb1.cell 1
 have q1:W.cell? ⟨w.heap.size + 1,1,none⟩=some (.string ⟨nm.toArray⟩):=hb2.cell 1
 have e2:W.cell? ⟨w.heap.size,2,none⟩=some (.slice ua N uc):=hb1.cell 2
 have q2:W.cell? ⟨w.heap.size + 1,2,none⟩=some (.slice va N vc):=hb2.cell 2
 rw [hW] at e0 e1 e2 q0 q1 q2
 clear r1 r2 g1 g2 hB0 hb1 hb2
 show Calls _ _ #[.agg #[.int .i64 ty,.string ⟨nm.toArray⟩,.slice ua vs.length uc,.int .i64 (at1:Int)],.agg #[.int .i64 ty,.string ⟨nm.toArray⟩,.slice va vs.length vc,.int .i64 (at2:Int)]] w _
 rw [hN]
 clear hN
 go_enter Tryz.func23,Tryz.ntmps23
 go_wp2
 rw [← hW] at e0 e1 e2 q0 q1 q2
 rw [← hW]
 clear hW e0 e1 e2 q0 q1 q2
 go_loopw [5] (fun x wx=>∃ i:Nat,x=.int .i64 (i:Int)∧i ≤ N∧Hid (Below W.heap.size W wx)) (fun x _=>N - (intOf x).toNat)
 case atStart=>exact ⟨0,rfl,Nat.zero_le _,Below.refl _ _⟩
 case round=>
  obtain ⟨i,hx,hi,HB⟩:=hrel
  subst hx
  have e2:wr.cell? ⟨w.heap.size,2,none⟩=some (.slice ua N uc):=(HX1.out.belowAll HB.out).cell 2
  have q2:wr.cell? ⟨w.heap.size + 1,2,none⟩=some (.slice va N vc):=(HX2.out.belowAll HB.out).cell 2
  by_cases hin:i < N
  ·have hi2:(i:Int) < (N:Int):=by omega
   have hi0:(0:Int) ≤ (i:Int):=by omega
   have hwi:IntKind.i64.wrap (i:Int)=(i:Int):=by rw [IntKind.wrap_i64];omega
   have hwi1:IntKind.i64.wrap ((i:Int) + 1)=(i:Int) + 1:=by rw [IntKind.wrap_i64];omega
   have hil:i < vs.length:=by rw [HN.out];exact hin
   have hil2:i < vs.length:=hil
   obtain ⟨gb,ob,cb,c,he1,hG1,hr1⟩:=(H1.out.up (Keep.below HB.out)).atN oneDv (LsF.up (fun _ _=>oneDv.up (Keep.below HB.out)) _ G1.out) hil
   obtain ⟨gc,oc,cc,d,he2,hG2,hr2⟩:=(H2.out.up (Keep.below HB.out)).atN oneDv (LsF.up (fun _ _=>oneDv.up (Keep.below HB.out)) _ G2.out) hil2
   injection he1 with he1 _ he1'
   subst he1 he1'
   injection he2 with he2 _ he2'
   subst he2 he2'
   have hl1:=oneDv.len hG1
   have hl2:=oneDv.len hG2
   have hs1:(Tryz.prog.info? 108).map (·.size)=some c.length:=by rw [hl1];exact sz_DVar
   have hs2:(Tryz.prog.info? 108).map (·.size)=some d.length:=by rw [hl2];exact sz_DVar
   have HO1:=Lib.hid (oneDv.one hG1)
   have HO2:=Lib.hid (oneDv.one hG2)
   have hZ:Holds (wr.alloc (.cells #[.string ⟨#[]⟩,.bool false,.int .i64 0,.int .i64 0,.string ⟨#[]⟩,.string ⟨#[]⟩,.slice none 0 0,.slice none 0 0,.slice none 0 0,.slice none 0 0,.slice none 0 0,.bool false,.int .i64 0,.int .i64 0,.string ⟨#[]⟩,.string ⟨#[]⟩,.slice none 0 0,.slice none 0 0,.slice none 0 0,.slice none 0 0,.slice none 0 0,.bool false,.slice none 0 0] 108)) wr.heap.size 108 [.string ⟨#[]⟩,.bool false,.int .i64 0,.int .i64 0,.string ⟨#[]⟩,.string ⟨#[]⟩,.slice none 0 0,.slice none 0 0,.slice none 0 0,.slice none 0 0,.slice none 0 0,.bool false,.int .i64 0,.int .i64 0,.string ⟨#[]⟩,.string ⟨#[]⟩,.slice none 0 0,.slice none 0 0,.slice none 0 0,.slice none 0 0,.slice none 0 0,.bool false,.slice none 0 0]:=Holds.new wr 108 #[.string ⟨#[]⟩,.bool false,.int .i64 0,.int .i64 0,.string ⟨#[]⟩,.string ⟨#[]⟩,.slice none 0 0,.slice none 0 0,.slice none 0 0,.slice none 0 0,.slice none 0 0,.bool false,.int .i64 0,.int .i64 0,.string ⟨#[]⟩,.string ⟨#[]⟩,.slice none 0 0,.slice none 0 0,.slice none 0 0,.slice none 0 0,.slice none 0 0,.bool false,.slice none 0 0]
   have HZ:=Lib.hid hZ
   have HR1:=Lib.hid hr1
   have HR2:=Lib.hid hr2
   have HG1:=Lib.hid hG1
   have HG2:=Lib.hid hG2
   clear hr1 hr2 hG1 hG2 hZ
   go_wp2_with (first | (refine wpList_load_mid rfl 108 _ rfl gb (ob + i * 23) rfl c _ HR1.out Tryz.underlying108 rfl hs1 ?_) | (refine wpList_storeB rfl 108 _ _ rfl wr.heap.size 0 c rfl rfl HZ.out (by rw [hl1];exact Nat.le_of_ble_eq_true rfl) hs1 HO1.out ?_))
   refine Named.mk (fun w7 hW=>?_)
   have hB7:Below wr.heap.size wr w7:=by rw [hW];exact Below.far (Below.refl _ _) (Nat.le_refl _) _ _ _
   have hD7:=HZ.out.stored hW (by rw [hl1];exact Nat.le_of_ble_eq_true rfl)
   rw [List.take_zero,List.nil_append,List.drop_of_length_le (by rw [hl1];exact Nat.le_of_ble_eq_true rfl),List.append_nil] at hD7
   have HX7:=Lib.hid hD7
   have HB7:=Lib.hid hB7
   have hZ:Holds (w7.alloc (.cells #[.string ⟨#[]⟩,.bool false,.int .i64 0,.int .i64 0,.string ⟨#[]⟩,.string ⟨#[]⟩,.slice none 0 0,.slice none 0 0,.slice none 0 0,.slice none 0 0,.slice none 0 0,.bool false,.int .i64 0,.int .i64 0,.string ⟨#[]⟩,.string ⟨#[]⟩,.slice none 0 0,.slice none 0 0,.slice none 0 0,.slice none 0 0,.slice none 0 0,.bool false,.slice none 0 0] 108)) w7.heap.size 108 [.string ⟨#[]⟩,.bool false,.int .i64 0,.int .i64 0,.string ⟨#[]⟩,.string ⟨#[]⟩,.slice none 0 0,.slice none 0 0,.slice none 0 0,.slice none 0 0,.slice none 0 0,.bool false,.int .i64 0,.int .i64 0,.string ⟨#[]⟩,.string ⟨#[]⟩,.slice none 0 0,.slice none 0 0,.slice none 0 0,.slice none 0 0,.slice none 0 0,.bool false,.slice none 0 0]:=Holds.new w7 108 #[.string ⟨#[]⟩,.bool false,.int .i64 0,.int .i64 0,.string ⟨#[]⟩,.string ⟨#[]⟩,.slice none 0 0,.slice none 0 0,.slice none 0 0,.slice none 0 0,.slice none 0 0,.bool false,.int .i64 0,.int .i64 0,.string ⟨#[]⟩,.string ⟨#[]⟩,.slice none 0 0,.slice none 0 0,.slice none 0 0,.slice none 0 0,.slice none 0 0,.bool false,.slice none 0 0]
   have HZ7:=Lib.hid hZ
   have HR7:=Lib.hid (range_below HR2.out hB7)
   have q7:w7.cell? ⟨w.heap.size + 1,2,none⟩=some (.slice (some ⟨gc,oc,none⟩) N vc):=(hB7.cell (World.block_lt_of_cell? _ _ q2)).trans q2
   clear hW hB7 hD7 hZ HZ HR1 HR2
   go_wp2_with (first | (refine wpList_load_mid rfl 108 _ rfl gc (oc + i * 23) rfl d _ HR7.out Tryz.underlying108 rfl hs2 ?_) | (refine wpList_storeB rfl 108 _ _ rfl w7.heap.size 0 d rfl rfl HZ7.out (by rw [hl2];exact Nat.le_of_ble_eq_true rfl) hs2 HO2.out ?_))
   refine Named.mk (fun w8 hW=>?_)
   have hB8:Below w7.heap.size w7 w8:=by rw [hW];exact Below.far (Below.refl _ _) (Nat.le_refl _) _ _ _
   have hD8:=HZ7.out.stored hW (by rw [hl2];exact Nat.le_of_ble_eq_true rfl)
   rw [List.take_zero,List.nil_append,List.drop_of_length_le (by rw [hl2];exact Nat.le_of_ble_eq_true rfl),List.append_nil] at hD8
   have hBr:Below wr.heap.size wr w8:=HB7.out.trans (hB8.mono HB7.out.size)
   have hX8:=HX7.out.belowAll hB8
   have HB8:=Lib.hid (HB.out.trans (hBr.mono HB.out.size))
   have hG1:=oneDv.up (Keep.below hBr) HG1.out
   have hG2:=oneDv.up (Keep.below hBr) HG2.out
   clear hW HZ7 HR7 HX7 HB7 HG1 HG2 hB8 hl1 hl2 hs1 hs2 HO1 HO2
   obtain ⟨X,hX⟩:∃ X,wr.heap.size=X:=⟨_,rfl⟩
   obtain ⟨Y,hY⟩:∃ Y,w7.heap.size=Y:=⟨_,rfl⟩
   rw [hX] at hX8 ⊢
   rw [hY] at hD8 ⊢
   clear hX hY
   obtain ⟨dv,hdv⟩:∃ dv,vs[i]=dv:=⟨_,rfl⟩
   rw [hdv] at hG1 hG2
   clear hdv e2 q2 q7
   obtain ⟨sn,si,sh,sk,sa,en,ei,eh,ek,ea,vf,rfl,p1,p2,p3⟩:=hG1
   obtain ⟨tn,ti,th,tk,ta,fn,fi,fh,fk,fe,vg,rfl,z1,z2,z3⟩:=hG2
   obtain ⟨xa1,xn1,xc1,xa2,xn2,xc2,xa3,xn3,xc3,xa4,xn4,xc4,xa5,xn5,xc5,rfl,rfl,rfl,rfl,rfl⟩:=p1.forms
   obtain ⟨ya1,yn1,yc1,ya2,yn2,yc2,ya3,yn3,yc3,ya4,yn4,yc4,ya5,yn5,yc5,rfl,rfl,rfl,rfl,rfl⟩:=p2.forms
   obtain ⟨ua1,un1,uc1,ua2,un2,uc2,ua3,un3,uc3,ua4,un4,uc4,ua5,un5,uc5,rfl,rfl,rfl,rfl,rfl⟩:=z1.forms
   obtain ⟨va1,vn1,vc1,va2,vn2,vc2,va3,vn3,vc3,va4,vn4,vc4,va5,vn5,vc5,rfl,rfl,rfl,rfl,rfl⟩:=z2.forms
   obtain ⟨fa,fc,rfl,hc1,hc2,_⟩:=p3.form
   obtain ⟨ga,gc2,rfl,hc3,hc4,_⟩:=z3.form
   have HX:Hid (Holds w8 X 108 [.string ⟨dv.name.toArray⟩,.bool dv.array,.int .i64 (dv.size.kind:Int),.int .i64 dv.size.n,.string ⟨dv.size.name.toArray⟩,.string ⟨dv.size.label.toArray⟩,.slice xa1 xn1 xc1,.slice xa2 xn2 xc2,.slice xa3 xn3 xc3,.slice xa4 xn4 xc4,.slice xa5 xn5 xc5,.bool dv.init,.int .i64 (dv.e.kind:Int),.int .i64 dv.e.n,.string ⟨dv.e.name.toArray⟩,.string ⟨dv.e.label.toArray⟩,.slice ya1 yn1 yc1,.slice ya2 yn2 yc2,.slice ya3 yn3 yc3,.slice ya4 yn4 yc4,.slice ya5 yn5 yc5,.bool dv.chan,.slice fa dv.fields.length fc]):=hX8
   have HY:Hid (Holds w8 Y 108 [.string ⟨dv.name.toArray⟩,.bool dv.array,.int .i64 (dv.size.kind:Int),.int .i64 dv.size.n,.string ⟨dv.size.name.toArray⟩,.string ⟨dv.size.label.toArray⟩,.slice ua1 un1 uc1,.slice ua2 un2 uc2,.slice ua3 un3 uc3,.slice ua4 un4 uc4,.slice ua5 un5 uc5,.bool dv.init,.int .i64 (dv.e.kind:Int),.int .i64 dv.e.n,.string ⟨dv.e.name.toArray⟩,.string ⟨dv.e.label.toArray⟩,.slice va1 vn1 vc1,.slice va2 vn2 vc2,.slice va3 vn3 vc3,.slice va4 vn4 vc4,.slice va5 vn5 vc5,.bool dv.chan,.slice ga dv.fields.length gc2]):=hD8
   have HP1:=Lib.hid p1
   have HP2:=Lib.hid p2
   have HP3:=Lib.hid p3
   have HQ1:=Lib.hid z1
   have HQ2:=Lib.hid z2
   have HQ3:=Lib.hid z3
   clear hX8 hD8 p1 p2 p3 z1 z2 z3
   have f2:w8.cell? ⟨X,2,none⟩=some (.int .i64 (dv.size.kind:Int)):=HX.out.cell 2
   have f2':w8.cell? ⟨Y,2,none⟩=some (.int .i64 (dv.size.kind:Int)):=HY.out.cell 2
   have f3:w8.cell? ⟨X,3,none⟩=some (.int .i64 dv.size.n):=HX.out.cell 3
   have f3':w8.cell? ⟨Y,3,none⟩=some (.int .i64 dv.size.n):=HY.out.cell 3
   have f4:w8.cell? ⟨X,4,none⟩=some (.string ⟨dv.size.name.toArray⟩):=HX.out.cell 4
   have f4':w8.cell? ⟨Y,4,none⟩=some (.string ⟨dv.size.name.toArray⟩):=HY.out.cell 4
   have f5:w8.cell? ⟨X,5,none⟩=some (.string ⟨dv.size.label.toArray⟩):=HX.out.cell 5
   have f5':w8.cell? ⟨Y,5,none⟩=some (.string ⟨dv.size.label.toArray⟩):=HY.out.cell 5
   have f6:w8.cell? ⟨X,6,none⟩=some (.slice xa1 xn1 xc1):=HX.out.cell 6
   have f6':w8.cell? ⟨Y,6,none⟩=some (.slice ua1 un1 uc1):=HY.out.cell 6
   have f7:w8.cell? ⟨X,7,none⟩=some (.slice xa2 xn2 xc2):=HX.out.cell 7
   have f7':w8.cell? ⟨Y,7,none⟩=some (.slice ua2 un2 uc2):=HY.out.cell 7
   have f8:w8.cell? ⟨X,8,none⟩=some (.slice xa3 xn3 xc3):=HX.out.cell 8
   have f8':w8.cell? ⟨Y,8,none⟩=some (.slice ua3 un3 uc3):=HY.out.cell 8
   have f9:w8.cell? ⟨X,9,none⟩=some (.slice xa4 xn4 xc4):=HX.out.cell 9
   have f9':w8.cell? ⟨Y,9,none⟩=some (.slice ua4 un4 uc4):=HY.out.cell 9
   have f10:w8.cell? ⟨X,10,none⟩=some (.slice xa5 xn5 xc5):=HX.out.cell 10
   have f10':w8.cell? ⟨Y,10,none⟩=some (.slice ua5 un5 uc5):=HY.out.cell 10
   have HC:=Lib.hid (show Calls _ _ #[.agg #[.int .i64 (dv.size.kind:Int),.int .i64 dv.size.n,.string ⟨dv.size.name.toArray⟩,.string ⟨dv.size.label.toArray⟩,.slice xa1 xn1 xc1,.slice xa2 xn2 xc2,.slice xa3 xn3 xc3,.slice xa4 xn4 xc4,.slice xa5 xn5 xc5],.agg #[.int .i64 (dv.size.kind:Int),.int .i64 dv.size.n,.string ⟨dv.size.name.toArray⟩,.string ⟨dv.size.label.toArray⟩,.slice ua1 un1 uc1,.slice ua2 un2 uc2,.slice ua3 un3 uc3,.slice ua4 un4 uc4,.slice ua5 un5 uc5]] w8 _ from sameD dv.size (c:=[.int .i64 (dv.size.kind:Int),.int .i64 dv.size.n,.string ⟨dv.size.name.toArray⟩,.string ⟨dv.size.label.toArray⟩,.slice xa1 xn1 xc1,.slice xa2 xn2 xc2,.slice xa3 xn3 xc3,.slice xa4 xn4 xc4,.slice xa5 xn5 xc5]) (d:=[.int .i64 (dv.size.kind:Int),.int .i64 dv.size.n,.string ⟨dv.size.name.toArray⟩,.string ⟨dv.size.label.toArray⟩,.slice ua1 un1 uc1,.slice ua2 un2 uc2,.slice ua3 un3 uc3,.slice ua4 un4 uc4,.slice ua5 un5 uc5]) ⟨_,_,_,_,_,rfl,HP1.out⟩ ⟨_,_,_,_,_,rfl,HQ1.out⟩)
   go_wp2_with (fail)
   refine HC.out.mono ?_
   rintro e w9 ⟨rfl,hb⟩
   have HB9:=Lib.hid (hb)
   clear hb HC f2 f2' f3 f3' f4 f4' f5 f5' f6 f6' f7 f7' f8 f8' f9 f9' f10 f10'
   have f12:w9.cell? ⟨X,12,none⟩=some (.int .i64 (dv.e.kind:Int)):=(HX.out.belowAll HB9.out).cell 12
   have f12':w9.cell? ⟨Y,12,none⟩=some (.int .i64 (dv.e.kind:Int)):=(HY.out.belowAll HB9.out).cell 12
   have f13:w9.cell? ⟨X,13,none⟩=some (.int .i64 dv.e.n):=(HX.out.belowAll HB9.out).cell 13
   have f13':w9.cell? ⟨Y,13,none⟩=some (.int .i64 dv.e.n):=(HY.out.belowAll HB9.out).cell 13
   have f14:w9.cell? ⟨X,14,none⟩=some (.string ⟨dv.e.name.toArray⟩):=(HX.out.belowAll HB9.out).cell 14
   have f14':w9.cell? ⟨Y,14,none⟩=some (.string ⟨dv.e.name.toArray⟩):=(HY.out.belowAll HB9.out).cell 14
   have f15:w9.cell? ⟨X,15,none⟩=some (.string ⟨dv.e.label.toArray⟩):=(HX.out.belowAll HB9.out).cell 15
   have f15':w9.cell? ⟨Y,15,none⟩=some (.string ⟨dv.e.label.toArray⟩):=(HY.out.belowAll HB9.out).cell 15
   have f16:w9.cell? ⟨X,16,none⟩=some (.slice ya1 yn1 yc1):=(HX.out.belowAll HB9.out).cell 16
   have f16':w9.cell? ⟨Y,16,none⟩=some (.slice va1 vn1 vc1):=(HY.out.belowAll HB9.out).cell 16
   have f17:w9.cell? ⟨X,17,none⟩=some (.slice ya2 yn2 yc2):=(HX.out.belowAll HB9.out).cell 17
   have f17':w9.cell? ⟨Y,17,none⟩=some (.slice va2 vn2 vc2):=(HY.out.belowAll HB9.out).cell 17
   have f18:w9.cell? ⟨X,18,none⟩=some (.slice ya3 yn3 yc3):=(HX.out.belowAll HB9.out).cell 18
   have f18':w9.cell? ⟨Y,18,none⟩=some (.slice va3 vn3 vc3):=(HY.out.belowAll HB9.out).cell 18
   have f19:w9.cell? ⟨X,19,none⟩=some (.slice ya4 yn4 yc4):=(HX.out.belowAll HB9.out).cell 19
   have f19':w9.cell? ⟨Y,19,none⟩=some (.slice va4 vn4 vc4):=(HY.out.belowAll HB9.out).cell 19
   have f20:w9.cell? ⟨X,20,none⟩=some (.slice ya5 yn5 yc5):=(HX.out.belowAll HB9.out).cell 20
   have f20':w9.cell? ⟨Y,20,none⟩=some (.slice va5 vn5 vc5):=(HY.out.belowAll HB9.out).cell 20
   have HC:=Lib.hid (show Calls _ _ #[.agg #[.int .i64 (dv.e.kind:Int),.int .i64 dv.e.n,.string ⟨dv.e.name.toArray⟩,.string ⟨dv.e.label.toArray⟩,.slice ya1 yn1 yc1,.slice ya2 yn2 yc2,.slice ya3 yn3 yc3,.slice ya4 yn4 yc4,.slice ya5 yn5 yc5],.agg #[.int .i64 (dv.e.kind:Int),.int .i64 dv.e.n,.string ⟨dv.e.name.toArray⟩,.string ⟨dv.e.label.toArray⟩,.slice va1 vn1 vc1,.slice va2 vn2 vc2,.slice va3 vn3 vc3,.slice va4 vn4 vc4,.slice va5 vn5 vc5]] w9 _ from sameD dv.e (c:=[.int .i64 (dv.e.kind:Int),.int .i64 dv.e.n,.string ⟨dv.e.name.toArray⟩,.string ⟨dv.e.label.toArray⟩,.slice ya1 yn1 yc1,.slice ya2 yn2 yc2,.slice ya3 yn3 yc3,.slice ya4 yn4 yc4,.slice ya5 yn5 yc5]) (d:=[.int .i64 (dv.e.kind:Int),.int .i64 dv.e.n,.string ⟨dv.e.name.toArray⟩,.string ⟨dv.e.label.toArray⟩,.slice va1 vn1 vc1,.slice va2 vn2 vc2,.slice va3 vn3 vc3,.slice va4 vn4 vc4,.slice va5 vn5 vc5]) ⟨_,_,_,_,_,rfl,(HP2.out.up (Keep.below HB9.out))⟩ ⟨_,_,_,_,_,rfl,(HQ2.out.up (Keep.below HB9.out))⟩)
   go_wp2_with (fail)
   refine HC.out.mono ?_
   rintro e w10 ⟨rfl,hb⟩
   have HB10:=Lib.hid (HB9.out.trans (hb.mono HB9.out.size))
   clear hb HC f12 f12' f13 f13' f14 f14' f15 f15' f16 f16' f17 f17' f18 f18' f19 f19' f20 f20'
   have f0:w10.cell? ⟨X,0,none⟩=some (.string ⟨dv.name.toArray⟩):=(HX.out.belowAll HB10.out).cell 0
   have f0':w10.cell? ⟨Y,0,none⟩=some (.string ⟨dv.name.toArray⟩):=(HY.out.belowAll HB10.out).cell 0
   have f1:w10.cell? ⟨X,1,none⟩=some (.bool dv.array):=(HX.out.belowAll HB10.out).cell 1
   have f1':w10.cell? ⟨Y,1,none⟩=some (.bool dv.array):=(HY.out.belowAll HB10.out).cell 1
   have f11:w10.cell? ⟨X,11,none⟩=some (.bool dv.init):=(HX.out.belowAll HB10.out).cell 11
   have f11':w10.cell? ⟨Y,11,none⟩=some (.bool dv.init):=(HY.out.belowAll HB10.out).cell 11
   have f21:w10.cell? ⟨X,21,none⟩=some (.bool dv.chan):=(HX.out.belowAll HB10.out).cell 21
   have f21':w10.cell? ⟨Y,21,none⟩=some (.bool dv.chan):=(HY.out.belowAll HB10.out).cell 21
   have f22:w10.cell? ⟨X,22,none⟩=some (.slice fa dv.fields.length fc):=(HX.out.belowAll HB10.out).cell 22
   have f22':w10.cell? ⟨Y,22,none⟩=some (.slice ga dv.fields.length gc2):=(HY.out.belowAll HB10.out).cell 22
   obtain ⟨M,hM⟩:∃ M,dv.fields.length=M:=⟨_,rfl⟩
   have HM:=Lib.hid hM
   have HX10:=Lib.hid (HX.out.belowAll HB10.out)
   have HY10:=Lib.hid (HY.out.belowAll HB10.out)
   have H3:=Lib.hid (HP3.out.up (Keep.below HB10.out))
   have H4:=Lib.hid (HQ3.out.up (Keep.below HB10.out))
   rw [hM] at f22 f22' hc1 hc3
   clear hM HX HY HP1 HP2 HQ1 HQ2 HP3 HQ3
   go_wp2
   have HB11:=Lib.hid (HB8.out.trans (HB10.out.mono HB8.out.size))
   clear f0 f0' f1 f1' f11 f11' f21 f21' f22 f22'
   go_loopw [9] (fun x wx=>∃ k:Nat,x=.int .i64 (k:Int)∧k ≤ M∧Hid (Below w10.heap.size w10 wx)) (fun x _=>M - (intOf x).toNat)
   case atStart=>exact ⟨0,rfl,Nat.zero_le _,Below.refl _ _⟩
   case round=>
    obtain ⟨k,hx,hk,HK⟩:=hrel
    subst hx
    have f22:wr.cell? ⟨X,22,none⟩=some (.slice fa M fc):=(HX10.out.belowAll HK.out).cell 22 |>.trans (by rw [← HM.out];rfl)
    have f22':wr.cell? ⟨Y,22,none⟩=some (.slice ga M gc2):=(HY10.out.belowAll HK.out).cell 22 |>.trans (by rw [← HM.out];rfl)
    by_cases hkn:k < M
    ·have hk2:(k:Int) < (M:Int):=by omega
     have hk0:(0:Int) ≤ (k:Int):=by omega
     have hwk:IntKind.i64.wrap (k:Int)=(k:Int):=by rw [IntKind.wrap_i64];omega
     have hwk1:IntKind.i64.wrap ((k:Int) + 1)=(k:Int) + 1:=by rw [IntKind.wrap_i64];omega
     obtain ⟨g1,o1,y1,x1,he1,hf1,hd1⟩:=(H3.out.up (Keep.below HK.out)).at1 (by rw [HM.out];exact hkn)
     obtain ⟨g2,o2,y2,x2,he2,hf2,hd2⟩:=(H4.out.up (Keep.below HK.out)).at1 (by rw [HM.out];exact hkn)
     injection he1 with he1 _ he1'
     subst he1 he1'
     injection he2 with he2 _ he2'
     subst he2 he2'
     rw [hf1] at hf2
     injection hf2 with hf2
     subst hf2
     have hkl:k < dv.fields.length:=by rw [HM.out];exact hkn
     rw [List.getElem?_map,List.getElem?_eq_getElem hkl] at hf1
     injection hf1 with hf1
     subst hf1
     obtain ⟨q,hq⟩:∃ q,dv.fields[k]=q:=⟨_,rfl⟩
     rw [hq] at hd1 hd2
     clear hq
     unfold intV at hd1 hd2
     go_wp2
     go_quiet (fail)
     have HK2:=Lib.hid (show Below w10.heap.size w10 (wr.drewN nq) from ⟨HK.out.os,HK.out.tape,HK.out.output,HK.out.size,HK.out.block⟩)
     go_wp2
     refine ⟨⟨k + 1,by simp,by omega,HK2⟩,?_⟩
     simp [intOf]
     omega
    ·have hk3:k=M:=by omega
     subst hk3
     have HBn:=Lib.hid (HB11.out.trans (HK.out.mono HB11.out.size))
     go_wp2
     refine ⟨⟨i + 1,by simp,by omega,HBn⟩,?_⟩
     simp [intOf]
     omega
  ·have hi3:i=N:=by omega
   subst hi3
   have HBn:=Lib.hid (HB0.out.trans (HB.out.mono HB0.out.size))
   go_wp2
   go_ret
   exact ⟨rfl,HBn.out⟩
end Go.Proofs.YtpoghableadkcaaGreatDoor
