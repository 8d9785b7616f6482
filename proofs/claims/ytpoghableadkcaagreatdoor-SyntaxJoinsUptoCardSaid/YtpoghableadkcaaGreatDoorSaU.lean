/- The document's comparison of rows of units that are the same, places aside (printed by mksam2.py). -/
import Derived.Test.YtpoghableadkcaaGreatDoorSaS
import Derived.Test.YtpoghableadkcaaGreatDoorSmU
import Derived.Deep.LoopGhost
namespace Go.Proofs.YtpoghableadkcaaGreatDoor
open Go.RowKit
set_option linter.unusedVariables false
set_option linter.unusedSimpArgs false

set_option maxHeartbeats 4000000 in
set_option maxRecDepth 1000000 in
theorem sameFn {l m:List Unt} (hm:m.map erU=l.map erU) {P Q:Nat→Prop} {w:World} {u v:Value} (k1:UntsV P w u l) (k2:UntsV Q w v m):Calls Tryz.prog 9 #[u,v] w fun e w'=>e=.returned (.bool true)∧Below w.heap.size w w':=by
 obtain ⟨f,h1,g1⟩:=k1
 obtain ⟨g,h2,g2⟩:=k2
 have hlen:=map_len hm
 have her:=fun i a b=>map_at hm i a b
 have hl:=True.intro
 obtain ⟨ua,uc,rfl,hu1,hu2,_⟩:=h1.form
 obtain ⟨va,vc,rfl,hv1,hv2,_⟩:=h2.form
 obtain ⟨N,hN⟩:∃ N,l.length=N:=⟨_,rfl⟩
 have H1:=Lib.hid h1
 have H2:=Lib.hid h2
 have G1:=Lib.hid g1
 have G2:=Lib.hid g2
 have HH:=Lib.hid hl
 have HL:=Lib.hid hlen
 have HER:=Lib.hid her
 have HN:=Lib.hid hN
 rw [hlen] at hv1 ⊢
 rw [hN] at hu1 hv1 ⊢
 clear hl hm hlen her h1 h2 g1 g2 hN
 go_enter Tryz.func9,Tryz.ntmps9
 go_wp2
 go_loopw [5] (fun x wx=>∃ i:Nat,x=.int .i64 (i:Int)∧i ≤ N∧Hid (Below w.heap.size w wx)) (fun x _=>N - (intOf x).toNat)
 case atStart=>exact ⟨0,rfl,Nat.zero_le _,Below.refl _ _⟩
 case round=>
  obtain ⟨i,hx,hi,HB⟩:=hrel
  subst hx
  by_cases hin:i < N
  ·have hi2:(i:Int) < (N:Int):=by omega
   have hi0:(0:Int) ≤ (i:Int):=by omega
   have hwi:IntKind.i64.wrap (i:Int)=(i:Int):=by rw [IntKind.wrap_i64];omega
   have hwi1:IntKind.i64.wrap ((i:Int) + 1)=(i:Int) + 1:=by rw [IntKind.wrap_i64];omega
   have hil:i < l.length:=by rw [HN.out];exact hin
   have hil2:i < m.length:=by rw [HL.out];exact hil
   obtain ⟨gb,ob,cb,c,he1,hG1,hr1⟩:=(H1.out.up (Keep.below HB.out)).atN oneUnt (LsF.up (fun _ _=>oneUnt.up (Keep.below HB.out)) _ G1.out) hil
   obtain ⟨gc,oc,cc,d,he2,hG2,hr2⟩:=(H2.out.up (Keep.below HB.out)).atN oneUnt (LsF.up (fun _ _=>oneUnt.up (Keep.below HB.out)) _ G2.out) hil2
   injection he1 with he1 _ he1'
   subst he1 he1'
   injection he2 with he2 _ he2'
   subst he2 he2'
   have hl1:=oneUnt.len hG1
   have hl2:=oneUnt.len hG2
   have hs1:(Tryz.prog.info? 54).map (·.size)=some c.length:=by rw [hl1];exact sz_Unt
   have hs2:(Tryz.prog.info? 54).map (·.size)=some d.length:=by rw [hl2];exact sz_Unt
   have HO1:=Lib.hid (oneUnt.one hG1)
   have HO2:=Lib.hid (oneUnt.one hG2)
   have hZ:Holds (wr.alloc (.cells #[.int .i64 0,.int .i64 0,.string ⟨#[]⟩,.string ⟨#[]⟩,.slice none 0 0,.bool false,.int .i64 0,.int .i64 0,.string ⟨#[]⟩,.string ⟨#[]⟩,.slice none 0 0,.slice none 0 0,.slice none 0 0,.slice none 0 0,.slice none 0 0,.int .i64 0,.string ⟨#[]⟩,.slice none 0 0,.int .i64 0,.slice none 0 0,.slice none 0 0] 54)) wr.heap.size 54 [.int .i64 0,.int .i64 0,.string ⟨#[]⟩,.string ⟨#[]⟩,.slice none 0 0,.bool false,.int .i64 0,.int .i64 0,.string ⟨#[]⟩,.string ⟨#[]⟩,.slice none 0 0,.slice none 0 0,.slice none 0 0,.slice none 0 0,.slice none 0 0,.int .i64 0,.string ⟨#[]⟩,.slice none 0 0,.int .i64 0,.slice none 0 0,.slice none 0 0]:=Holds.new wr 54 #[.int .i64 0,.int .i64 0,.string ⟨#[]⟩,.string ⟨#[]⟩,.slice none 0 0,.bool false,.int .i64 0,.int .i64 0,.string ⟨#[]⟩,.string ⟨#[]⟩,.slice none 0 0,.slice none 0 0,.slice none 0 0,.slice none 0 0,.slice none 0 0,.int .i64 0,.string ⟨#[]⟩,.slice none 0 0,.int .i64 0,.slice none 0 0,.slice none 0 0]
   have HZ:=Lib.hid hZ
   have HR1:=Lib.hid hr1
   have HR2:=Lib.hid hr2
   have HG1:=Lib.hid hG1
   have HG2:=Lib.hid hG2
   clear hr1 hr2 hG1 hG2 hZ
   go_wp2_with (first | (refine wpList_load_mid rfl 54 _ rfl gb (ob + i * 21) rfl c _ HR1.out Tryz.underlying54 rfl hs1 ?_) | (refine wpList_storeB rfl 54 _ _ rfl wr.heap.size 0 c rfl rfl HZ.out (by rw [hl1];exact Nat.le_of_ble_eq_true rfl) hs1 HO1.out ?_))
   refine Named.mk (fun w7 hW=>?_)
   have hB7:Below wr.heap.size wr w7:=by rw [hW];exact Below.far (Below.refl _ _) (Nat.le_refl _) _ _ _
   have hD7:=HZ.out.stored hW (by rw [hl1];exact Nat.le_of_ble_eq_true rfl)
   rw [List.take_zero,List.nil_append,List.drop_of_length_le (by rw [hl1];exact Nat.le_of_ble_eq_true rfl),List.append_nil] at hD7
   have HX7:=Lib.hid hD7
   have HB7:=Lib.hid hB7
   have hZ:Holds (w7.alloc (.cells #[.int .i64 0,.int .i64 0,.string ⟨#[]⟩,.string ⟨#[]⟩,.slice none 0 0,.bool false,.int .i64 0,.int .i64 0,.string ⟨#[]⟩,.string ⟨#[]⟩,.slice none 0 0,.slice none 0 0,.slice none 0 0,.slice none 0 0,.slice none 0 0,.int .i64 0,.string ⟨#[]⟩,.slice none 0 0,.int .i64 0,.slice none 0 0,.slice none 0 0] 54)) w7.heap.size 54 [.int .i64 0,.int .i64 0,.string ⟨#[]⟩,.string ⟨#[]⟩,.slice none 0 0,.bool false,.int .i64 0,.int .i64 0,.string ⟨#[]⟩,.string ⟨#[]⟩,.slice none 0 0,.slice none 0 0,.slice none 0 0,.slice none 0 0,.slice none 0 0,.int .i64 0,.string ⟨#[]⟩,.slice none 0 0,.int .i64 0,.slice none 0 0,.slice none 0 0]:=Holds.new w7 54 #[.int .i64 0,.int .i64 0,.string ⟨#[]⟩,.string ⟨#[]⟩,.slice none 0 0,.bool false,.int .i64 0,.int .i64 0,.string ⟨#[]⟩,.string ⟨#[]⟩,.slice none 0 0,.slice none 0 0,.slice none 0 0,.slice none 0 0,.slice none 0 0,.int .i64 0,.string ⟨#[]⟩,.slice none 0 0,.int .i64 0,.slice none 0 0,.slice none 0 0]
   have HZ7:=Lib.hid hZ
   have HR7:=Lib.hid (range_below HR2.out hB7)
   clear hW hB7 hD7 hZ HZ HR1 HR2
   go_wp2_with (first | (refine wpList_load_mid rfl 54 _ rfl gc (oc + i * 21) rfl d _ HR7.out Tryz.underlying54 rfl hs2 ?_) | (refine wpList_storeB rfl 54 _ _ rfl w7.heap.size 0 d rfl rfl HZ7.out (by rw [hl2];exact Nat.le_of_ble_eq_true rfl) hs2 HO2.out ?_))
   refine Named.mk (fun w8 hW=>?_)
   have hB8:Below w7.heap.size w7 w8:=by rw [hW];exact Below.far (Below.refl _ _) (Nat.le_refl _) _ _ _
   have hD8:=HZ7.out.stored hW (by rw [hl2];exact Nat.le_of_ble_eq_true rfl)
   rw [List.take_zero,List.nil_append,List.drop_of_length_le (by rw [hl2];exact Nat.le_of_ble_eq_true rfl),List.append_nil] at hD8
   have hBr:Below wr.heap.size wr w8:=HB7.out.trans (hB8.mono HB7.out.size)
   have hX8:=HX7.out.belowAll hB8
   have HB8:=Lib.hid (HB.out.trans (hBr.mono HB.out.size))
   have hG1:=oneUnt.up (Keep.below hBr) HG1.out
   have hG2:=oneUnt.up (Keep.below hBr) HG2.out
   clear hW HZ7 HR7 HX7 HB7 HG1 HG2 hB8 hl1 hl2 hs1 hs2 HO1 HO2
   obtain ⟨X,hX⟩:∃ X,wr.heap.size=X:=⟨_,rfl⟩
   obtain ⟨Y,hY⟩:∃ Y,w7.heap.size=Y:=⟨_,rfl⟩
   rw [hX] at hX8 ⊢
   rw [hY] at hD8 ⊢
   clear hX hY
   have he:=HER.out i hil hil2
   obtain ⟨s,hs⟩:∃ s,l[i]=s:=⟨_,rfl⟩
   obtain ⟨s2,hs2⟩:∃ s,m[i]=s:=⟨_,rfl⟩
   rw [hs] at hG1 he
   rw [hs2] at hG2 he
   clear hs hs2
   obtain ⟨kd2,at1,nm2,tx2,ns2,ac2,ct2,dd,ds,bo⟩:=s
   obtain ⟨kd,at2,nm,tx,ns,ac,ct,d2,ds2,b2⟩:=s2
   simp only [erU,Unt.mk.injEq,true_and] at he
   obtain ⟨rfl,rfl,rfl,rfl,rfl,rfl,hd,ho,hb⟩:=he
   obtain ⟨vn,cn,ci,ch,ck,ca,dvv,vd,vb,rfl,p1,p2,⟨f5,p5,p5'⟩,⟨f6,p6,p6'⟩,⟨f7,p7,p7'⟩⟩:=hG1
   dsimp only at p1 p2 p5 p5' p6 p6' p7 p7'
   obtain ⟨xna,xnc,rfl,_⟩:=p1.form
   obtain ⟨xa1,xn1,xc1,xa2,xn2,xc2,xa3,xn3,xc3,xa4,xn4,xc4,xa5,xn5,xc5,rfl,rfl,rfl,rfl,rfl⟩:=p2.forms
   obtain ⟨xds,xdc,rfl,_⟩:=p5.form
   obtain ⟨xos,xoc,rfl,xo1,xo2,_⟩:=p6.form
   obtain ⟨xbs,xbc,rfl,_⟩:=p7.form
   obtain ⟨vn,cn,ci,ch,ck,ca,dvv,vd,vb,rfl,z1,z2,⟨f5,z5,z5'⟩,⟨f6,z6,z6'⟩,⟨f7,z7,z7'⟩⟩:=hG2
   dsimp only at z1 z2 z5 z5' z6 z6' z7 z7'
   obtain ⟨yna,ync,rfl,_⟩:=z1.form
   obtain ⟨ya1,yn1,yc1,ya2,yn2,yc2,ya3,yn3,yc3,ya4,yn4,yc4,ya5,yn5,yc5,rfl,rfl,rfl,rfl,rfl⟩:=z2.forms
   obtain ⟨yds,ydc,rfl,_⟩:=z5.form
   obtain ⟨yos,yoc,rfl,yo1,yo2,_⟩:=z6.form
   obtain ⟨ybs,ybc,rfl,_⟩:=z7.form
   have hol:=map_len ho
   have hoe:=fun i a b=>map_at ho i a b
   have HX:Hid (Holds w8 X 54 [.int .i64 (kd:Int),.int .i64 (at1:Int),.string ⟨nm.toArray⟩,.string ⟨tx.toArray⟩,.slice xna ns.length xnc,.bool ac,.int .i64 (ct.kind:Int),.int .i64 ct.n,.string ⟨ct.name.toArray⟩,.string ⟨ct.label.toArray⟩,.slice xa1 xn1 xc1,.slice xa2 xn2 xc2,.slice xa3 xn3 xc3,.slice xa4 xn4 xc4,.slice xa5 xn5 xc5,.int .i64 dd.type,.string ⟨dd.named.toArray⟩,.slice xds dd.vars.length xdc,.int .i64 (dd.at_:Int),.slice xos ds.length xoc,.slice xbs bo.length xbc]):=hX8
   have HY:Hid (Holds w8 Y 54 [.int .i64 (kd:Int),.int .i64 (at2:Int),.string ⟨nm.toArray⟩,.string ⟨tx.toArray⟩,.slice yna ns.length ync,.bool ac,.int .i64 (ct.kind:Int),.int .i64 ct.n,.string ⟨ct.name.toArray⟩,.string ⟨ct.label.toArray⟩,.slice ya1 yn1 yc1,.slice ya2 yn2 yc2,.slice ya3 yn3 yc3,.slice ya4 yn4 yc4,.slice ya5 yn5 yc5,.int .i64 d2.type,.string ⟨d2.named.toArray⟩,.slice yds d2.vars.length ydc,.int .i64 (d2.at_:Int),.slice yos ds2.length yoc,.slice ybs b2.length ybc]):=hD8
   have HD:Hid (erD d2=erD dd):=hd
   have HOL:=Lib.hid hol
   have HOE:=Lib.hid hoe
   have HBO:=Lib.hid hb
   have HP1:=Lib.hid p1
   have HP2:=Lib.hid p2
   have HP5:=Lib.hid p5
   have HP6:=Lib.hid p6
   have HP7:=Lib.hid p7
   have HP5':=Lib.hid p5'
   have HP6':=Lib.hid p6'
   have HP7':=Lib.hid p7'
   have HQ1:=Lib.hid z1
   have HQ2:=Lib.hid z2
   have HQ5:=Lib.hid z5
   have HQ6:=Lib.hid z6
   have HQ7:=Lib.hid z7
   have HQ5':=Lib.hid z5'
   have HQ6':=Lib.hid z6'
   have HQ7':=Lib.hid z7'
   clear hX8 hD8 hd ho hol hoe hb p1 p2 p5 p6 p7 z1 z2 z5 z6 z7
   clear p5' p6' p7' z5' z6' z7'
   have f4:w8.cell? ⟨X,4,none⟩=some (.slice xna ns.length xnc):=HX.out.cell 4
   have f4':w8.cell? ⟨Y,4,none⟩=some (.slice yna ns.length ync):=HY.out.cell 4
   have HC:=Lib.hid (textsFn HP1.out HQ1.out)
   go_wp2_with (fail)
   refine HC.out.mono ?_
   rintro e w9 ⟨rfl,hb⟩
   have HB9:=Lib.hid (hb)
   clear hb HC f4 f4'
   have f6:w9.cell? ⟨X,6,none⟩=some (.int .i64 (ct.kind:Int)):=(HX.out.belowAll HB9.out).cell 6
   have f6':w9.cell? ⟨Y,6,none⟩=some (.int .i64 (ct.kind:Int)):=(HY.out.belowAll HB9.out).cell 6
   have f7:w9.cell? ⟨X,7,none⟩=some (.int .i64 ct.n):=(HX.out.belowAll HB9.out).cell 7
   have f7':w9.cell? ⟨Y,7,none⟩=some (.int .i64 ct.n):=(HY.out.belowAll HB9.out).cell 7
   have f8:w9.cell? ⟨X,8,none⟩=some (.string ⟨ct.name.toArray⟩):=(HX.out.belowAll HB9.out).cell 8
   have f8':w9.cell? ⟨Y,8,none⟩=some (.string ⟨ct.name.toArray⟩):=(HY.out.belowAll HB9.out).cell 8
   have f9:w9.cell? ⟨X,9,none⟩=some (.string ⟨ct.label.toArray⟩):=(HX.out.belowAll HB9.out).cell 9
   have f9':w9.cell? ⟨Y,9,none⟩=some (.string ⟨ct.label.toArray⟩):=(HY.out.belowAll HB9.out).cell 9
   have f10:w9.cell? ⟨X,10,none⟩=some (.slice xa1 xn1 xc1):=(HX.out.belowAll HB9.out).cell 10
   have f10':w9.cell? ⟨Y,10,none⟩=some (.slice ya1 yn1 yc1):=(HY.out.belowAll HB9.out).cell 10
   have f11:w9.cell? ⟨X,11,none⟩=some (.slice xa2 xn2 xc2):=(HX.out.belowAll HB9.out).cell 11
   have f11':w9.cell? ⟨Y,11,none⟩=some (.slice ya2 yn2 yc2):=(HY.out.belowAll HB9.out).cell 11
   have f12:w9.cell? ⟨X,12,none⟩=some (.slice xa3 xn3 xc3):=(HX.out.belowAll HB9.out).cell 12
   have f12':w9.cell? ⟨Y,12,none⟩=some (.slice ya3 yn3 yc3):=(HY.out.belowAll HB9.out).cell 12
   have f13:w9.cell? ⟨X,13,none⟩=some (.slice xa4 xn4 xc4):=(HX.out.belowAll HB9.out).cell 13
   have f13':w9.cell? ⟨Y,13,none⟩=some (.slice ya4 yn4 yc4):=(HY.out.belowAll HB9.out).cell 13
   have f14:w9.cell? ⟨X,14,none⟩=some (.slice xa5 xn5 xc5):=(HX.out.belowAll HB9.out).cell 14
   have f14':w9.cell? ⟨Y,14,none⟩=some (.slice ya5 yn5 yc5):=(HY.out.belowAll HB9.out).cell 14
   have HC:=Lib.hid (show Calls _ _ #[.agg #[.int .i64 (ct.kind:Int),.int .i64 ct.n,.string ⟨ct.name.toArray⟩,.string ⟨ct.label.toArray⟩,.slice xa1 xn1 xc1,.slice xa2 xn2 xc2,.slice xa3 xn3 xc3,.slice xa4 xn4 xc4,.slice xa5 xn5 xc5],.agg #[.int .i64 (ct.kind:Int),.int .i64 ct.n,.string ⟨ct.name.toArray⟩,.string ⟨ct.label.toArray⟩,.slice ya1 yn1 yc1,.slice ya2 yn2 yc2,.slice ya3 yn3 yc3,.slice ya4 yn4 yc4,.slice ya5 yn5 yc5]] w9 _ from sameD ct (c:=[.int .i64 (ct.kind:Int),.int .i64 ct.n,.string ⟨ct.name.toArray⟩,.string ⟨ct.label.toArray⟩,.slice xa1 xn1 xc1,.slice xa2 xn2 xc2,.slice xa3 xn3 xc3,.slice xa4 xn4 xc4,.slice xa5 xn5 xc5]) (d:=[.int .i64 (ct.kind:Int),.int .i64 ct.n,.string ⟨ct.name.toArray⟩,.string ⟨ct.label.toArray⟩,.slice ya1 yn1 yc1,.slice ya2 yn2 yc2,.slice ya3 yn3 yc3,.slice ya4 yn4 yc4,.slice ya5 yn5 yc5]) ⟨_,_,_,_,_,rfl,(HP2.out.up (Keep.below HB9.out))⟩ ⟨_,_,_,_,_,rfl,(HQ2.out.up (Keep.below HB9.out))⟩)
   go_wp2_with (fail)
   refine HC.out.mono ?_
   rintro e w10 ⟨rfl,hb⟩
   have HB10:=Lib.hid (HB9.out.trans (hb.mono HB9.out.size))
   clear hb HC f6 f6' f7 f7' f8 f8' f9 f9' f10 f10' f11 f11' f12 f12' f13 f13' f14 f14'
   have f15:w10.cell? ⟨X,15,none⟩=some (.int .i64 dd.type):=(HX.out.belowAll HB10.out).cell 15
   have f15':w10.cell? ⟨Y,15,none⟩=some (.int .i64 d2.type):=(HY.out.belowAll HB10.out).cell 15
   have f16:w10.cell? ⟨X,16,none⟩=some (.string ⟨dd.named.toArray⟩):=(HX.out.belowAll HB10.out).cell 16
   have f16':w10.cell? ⟨Y,16,none⟩=some (.string ⟨d2.named.toArray⟩):=(HY.out.belowAll HB10.out).cell 16
   have f17:w10.cell? ⟨X,17,none⟩=some (.slice xds dd.vars.length xdc):=(HX.out.belowAll HB10.out).cell 17
   have f17':w10.cell? ⟨Y,17,none⟩=some (.slice yds d2.vars.length ydc):=(HY.out.belowAll HB10.out).cell 17
   have f18:w10.cell? ⟨X,18,none⟩=some (.int .i64 (dd.at_:Int)):=(HX.out.belowAll HB10.out).cell 18
   have f18':w10.cell? ⟨Y,18,none⟩=some (.int .i64 (d2.at_:Int)):=(HY.out.belowAll HB10.out).cell 18
   have HC:=Lib.hid (show Calls _ _ #[.agg #[.int .i64 dd.type,.string ⟨dd.named.toArray⟩,.slice xds dd.vars.length xdc,.int .i64 (dd.at_:Int)],.agg #[.int .i64 d2.type,.string ⟨d2.named.toArray⟩,.slice yds d2.vars.length ydc,.int .i64 (d2.at_:Int)]] w10 _ from sameDeclFn HD.out (c1:=[.int .i64 dd.type,.string ⟨dd.named.toArray⟩,.slice xds dd.vars.length xdc,.int .i64 (dd.at_:Int)]) (c2:=[.int .i64 d2.type,.string ⟨d2.named.toArray⟩,.slice yds d2.vars.length ydc,.int .i64 (d2.at_:Int)]) ⟨_,rfl,_,(HP5.out.up (Keep.below HB10.out)),DvsF.up (Keep.below HB10.out) _ HP5'.out⟩ ⟨_,rfl,_,(HQ5.out.up (Keep.below HB10.out)),DvsF.up (Keep.below HB10.out) _ HQ5'.out⟩)
   go_wp2_with (fail)
   refine HC.out.mono ?_
   rintro e w11 ⟨rfl,hb⟩
   have HB11:=Lib.hid (HB10.out.trans (hb.mono HB10.out.size))
   clear hb HC f15 f15' f16 f16' f17 f17' f18 f18'
   have f20:w11.cell? ⟨X,20,none⟩=some (.slice xbs bo.length xbc):=(HX.out.belowAll HB11.out).cell 20
   have f20':w11.cell? ⟨Y,20,none⟩=some (.slice ybs b2.length ybc):=(HY.out.belowAll HB11.out).cell 20
   have HC:=Lib.hid (sameStmtsFn (sameLs bo) b2 HBO.out (HP7.out.up (Keep.below HB11.out)) (StmsF.up (Keep.below HB11.out) _ HP7'.out) (HQ7.out.up (Keep.below HB11.out)) (StmsF.up (Keep.below HB11.out) _ HQ7'.out))
   go_wp2_with (fail)
   refine HC.out.mono ?_
   rintro e w12 ⟨rfl,hb⟩
   have HB12:=Lib.hid (HB11.out.trans (hb.mono HB11.out.size))
   clear hb HC f20 f20'
   have f19:w12.cell? ⟨X,19,none⟩=some (.slice xos ds.length xoc):=(HX.out.belowAll HB12.out).cell 19
   have f19':w12.cell? ⟨Y,19,none⟩=some (.slice yos ds2.length yoc):=(HY.out.belowAll HB12.out).cell 19
   have f0:w12.cell? ⟨X,0,none⟩=some (.int .i64 (kd:Int)):=(HX.out.belowAll HB12.out).cell 0
   have f0':w12.cell? ⟨Y,0,none⟩=some (.int .i64 (kd:Int)):=(HY.out.belowAll HB12.out).cell 0
   have f2:w12.cell? ⟨X,2,none⟩=some (.string ⟨nm.toArray⟩):=(HX.out.belowAll HB12.out).cell 2
   have f2':w12.cell? ⟨Y,2,none⟩=some (.string ⟨nm.toArray⟩):=(HY.out.belowAll HB12.out).cell 2
   have f3:w12.cell? ⟨X,3,none⟩=some (.string ⟨tx.toArray⟩):=(HX.out.belowAll HB12.out).cell 3
   have f3':w12.cell? ⟨Y,3,none⟩=some (.string ⟨tx.toArray⟩):=(HY.out.belowAll HB12.out).cell 3
   have f5:w12.cell? ⟨X,5,none⟩=some (.bool ac):=(HX.out.belowAll HB12.out).cell 5
   have f5':w12.cell? ⟨Y,5,none⟩=some (.bool ac):=(HY.out.belowAll HB12.out).cell 5
   obtain ⟨M,hM⟩:∃ M,ds.length=M:=⟨_,rfl⟩
   have HM:=Lib.hid hM
   have HXn:=Lib.hid (HX.out.belowAll HB12.out)
   have HYn:=Lib.hid (HY.out.belowAll HB12.out)
   have H3:=Lib.hid (HP6.out.up (Keep.below HB12.out))
   have H4:=Lib.hid (HQ6.out.up (Keep.below HB12.out))
   have H5:=Lib.hid (DclsF.up (Keep.below HB12.out) _ HP6'.out)
   have H6:=Lib.hid (DclsF.up (Keep.below HB12.out) _ HQ6'.out)
   rw [HOL.out] at f19' yo1
   have HWn:=Lib.hid (HB8.out.trans (HB12.out.mono HB8.out.size))
   rw [hM] at f19 f19' xo1 yo1
   clear hM HX HY HP1 HP2 HP5 HP6 HP7 HQ1 HQ2 HQ5 HQ6 HQ7 HP5' HP6' HP7' HQ5' HQ6' HQ7'
   go_wp2
   clear f19 f19' f0 f0' f2 f2' f3 f3' f5 f5'
   go_loopw [10] (fun x wx=>∃ k:Nat,x=.int .i64 (k:Int)∧k ≤ M∧Hid (Below w12.heap.size w12 wx)) (fun x _=>M - (intOf x).toNat)
   case atStart=>exact ⟨0,rfl,Nat.zero_le _,Below.refl _ _⟩
   case round=>
    obtain ⟨k,hx,hk,HK⟩:=hrel
    subst hx
    have HW:=Lib.hid (HWn.out.trans (HK.out.mono HWn.out.size))
    have eA:wr.cell? ⟨X,19,none⟩=some (.slice xos M xoc):=(HXn.out.belowAll HK.out).cell 19 |>.trans (by rw [← HM.out];rfl)
    have eB:wr.cell? ⟨Y,19,none⟩=some (.slice yos M yoc):=(HYn.out.belowAll HK.out).cell 19 |>.trans (by rw [← HM.out,← HOL.out];rfl)
    by_cases hkn:k < M
    ·have hk2:(k:Int) < (M:Int):=by omega
     have hk0:(0:Int) ≤ (k:Int):=by omega
     have hwk:IntKind.i64.wrap (k:Int)=(k:Int):=by rw [IntKind.wrap_i64];omega
     have hwk1:IntKind.i64.wrap ((k:Int) + 1)=(k:Int) + 1:=by rw [IntKind.wrap_i64];omega
     have hkl:k < ds.length:=by rw [HM.out];exact hkn
     have hkl2:k < ds2.length:=by rw [HOL.out];exact hkl
     obtain ⟨g1,o1,y1,x1,he1,hc1,hd1⟩:=(H3.out.up (Keep.below HK.out)).atN oneDcl (DclsF.up (Keep.below HK.out) _ H5.out) hkl
     obtain ⟨g2,oo2,y2,x2,he2,hc2,hd2⟩:=(H4.out.up (Keep.below HK.out)).atN oneDcl (DclsF.up (Keep.below HK.out) _ H6.out) hkl2
     injection he1 with he1 _ he1'
     subst he1 he1'
     injection he2 with he2 _ he2'
     subst he2 he2'
     have HE:=Lib.hid (HOE.out k hkl hkl2)
     have hz1:(Tryz.prog.info? 50).map (·.size)=some x1.length:=by rw [oneDcl.len hc1];exact sz_Dcl
     have hz2:(Tryz.prog.info? 50).map (·.size)=some x2.length:=by rw [oneDcl.len hc2];exact sz_Dcl
     have ED1:=Lib.hid hd1
     have ED2:=Lib.hid hd2
     have HR1:=Lib.hid hc1
     have HR2:=Lib.hid hc2
     clear hd1 hd2 hc1 hc2
     have EA:=Lib.hid eA
     have EB:=Lib.hid eB
     go_wp2
     clear eA eB
     refine wp_region_puts (fun w2=>Below w.heap.size w w2∧Below wr.heap.size wr w2) [(0,105,.pointer (some ⟨X,19,none⟩)),(1,106,.slice (some ⟨g1,o1,none⟩) M xoc),(2,107,.int .i64 (k:Int)),(3,108,.pointer (some ⟨g1,o1 + k * 4,none⟩)),(4,109,.agg x1.toArray),(5,110,.pointer (some ⟨Y,19,none⟩)),(6,111,.slice (some ⟨g2,oo2,none⟩) M yoc),(7,112,.int .i64 (k:Int)),(8,113,.pointer (some ⟨g2,oo2 + k * 4,none⟩)),(9,114,.agg x2.toArray),(10,115,.bool true),(11,11,.bool true)] 118 rfl (by kernel_rfl) (by kernel_rfl) (by kernel_rfl) ⟨⟨HW.out.os,HW.out.tape,HW.out.output,HW.out.size,HW.out.block⟩,⟨rfl,rfl,rfl,Nat.le_refl _,fun _ _=>rfl⟩⟩ (fun i hi=>?_) (fun w9 hS9=>?_)
     ·have hi2:i < 12:=hi
      clear hi
      have hi3:i=0∨i=1∨i=2∨i=3∨i=4∨i=5∨i=6∨i=7∨i=8∨i=9∨i=10∨i=11:=by omega
      clear hi2
      rcases hi3 with rfl | rfl | rfl | rfl | rfl | rfl | rfl | rfl | rfl | rfl | rfl | rfl
      ·exact CalmOp.pure 0 105 (.pointer (some ⟨X,19,none⟩)) rfl rfl rfl rfl (fun b w2 hR hB hS2=>by
        have h6:b.eval (.tmp 6)=.pointer (some ⟨X,0,none⟩):=(hB 6 (by decide) (by kernel_rfl) (by kernel_rfl)).trans rfl
        simp only [Act.eval,Array.getD_eq_getD_getElem?] at h6
        clear hR hB
        unfold execOp
        simp [go_sem,h6])
      ·exact CalmOp.pure 1 106 (.slice (some ⟨g1,o1,none⟩) M xoc) rfl rfl rfl rfl (fun b w2 hR hB hS2=>by
        have h105:b.eval (.tmp 105)=.pointer (some ⟨X,19,none⟩):=hR 0 0 105 _ rfl (by kernel_rfl)
        simp only [Act.eval,Array.getD_eq_getD_getElem?] at h105
        clear hR hB
        unfold execOp
        have e:=(hS2.2.cell (World.block_lt_of_cell? _ _ EA.out)).trans EA.out
        simp [go_sem,h105,e])
      ·exact CalmOp.pure 2 107 (.int .i64 (k:Int)) rfl rfl rfl rfl (fun b w2 hR hB hS2=>by
        have h10:b.eval (.tmp 10)=.int .i64 (k:Int):=(hB 10 (by decide) (by kernel_rfl) (by kernel_rfl)).trans rfl
        simp only [Act.eval,Array.getD_eq_getD_getElem?] at h10
        clear hR hB
        unfold execOp
        simp [go_sem,h10])
      ·exact CalmOp.pure 3 108 (.pointer (some ⟨g1,o1 + k * 4,none⟩)) rfl rfl rfl rfl (fun b w2 hR hB hS2=>by
        have h106:b.eval (.tmp 106)=.slice (some ⟨g1,o1,none⟩) M xoc:=hR 1 1 106 _ rfl (by kernel_rfl)
        have h107:b.eval (.tmp 107)=.int .i64 (k:Int):=hR 2 2 107 _ rfl (by kernel_rfl)
        simp only [Act.eval,Array.getD_eq_getD_getElem?] at h106 h107
        clear hR hB
        unfold execOp
        simp [go_sem,h106,h107,hk0,hk2,hwk])
      ·exact CalmOp.pure 4 109 (.agg x1.toArray) rfl rfl rfl rfl (fun b w2 hR hB hS2=>by
        have h108:b.eval (.tmp 108)=.pointer (some ⟨g1,o1 + k * 4,none⟩):=hR 3 3 108 _ rfl (by kernel_rfl)
        clear hR hB
        have e:=run_loadAt_mid (P:=Tryz.prog) w2 _ _ 50 _ _ (range_below ED1.out hS2.2) Tryz.underlying50 rfl hz1
        show Sem.run Tryz.prog (do let v ← Instr.loadAt 50 (b.eval (.tmp 108));pure (Next.value v)) w2=_
        rw [h108,Sem.run_bind,e]
        rfl)
      ·exact CalmOp.pure 5 110 (.pointer (some ⟨Y,19,none⟩)) rfl rfl rfl rfl (fun b w2 hR hB hS2=>by
        have h7:b.eval (.tmp 7)=.pointer (some ⟨Y,0,none⟩):=(hB 7 (by decide) (by kernel_rfl) (by kernel_rfl)).trans rfl
        simp only [Act.eval,Array.getD_eq_getD_getElem?] at h7
        clear hR hB
        unfold execOp
        simp [go_sem,h7])
      ·exact CalmOp.pure 6 111 (.slice (some ⟨g2,oo2,none⟩) M yoc) rfl rfl rfl rfl (fun b w2 hR hB hS2=>by
        have h110:b.eval (.tmp 110)=.pointer (some ⟨Y,19,none⟩):=hR 5 5 110 _ rfl (by kernel_rfl)
        simp only [Act.eval,Array.getD_eq_getD_getElem?] at h110
        clear hR hB
        unfold execOp
        have e:=(hS2.2.cell (World.block_lt_of_cell? _ _ EB.out)).trans EB.out
        simp [go_sem,h110,e])
      ·exact CalmOp.pure 7 112 (.int .i64 (k:Int)) rfl rfl rfl rfl (fun b w2 hR hB hS2=>by
        have h10:b.eval (.tmp 10)=.int .i64 (k:Int):=(hB 10 (by decide) (by kernel_rfl) (by kernel_rfl)).trans rfl
        simp only [Act.eval,Array.getD_eq_getD_getElem?] at h10
        clear hR hB
        unfold execOp
        simp [go_sem,h10])
      ·exact CalmOp.pure 8 113 (.pointer (some ⟨g2,oo2 + k * 4,none⟩)) rfl rfl rfl rfl (fun b w2 hR hB hS2=>by
        have h111:b.eval (.tmp 111)=.slice (some ⟨g2,oo2,none⟩) M yoc:=hR 6 6 111 _ rfl (by kernel_rfl)
        have h112:b.eval (.tmp 112)=.int .i64 (k:Int):=hR 7 7 112 _ rfl (by kernel_rfl)
        simp only [Act.eval,Array.getD_eq_getD_getElem?] at h111 h112
        clear hR hB
        unfold execOp
        simp [go_sem,h111,h112,hk0,hk2,hwk])
      ·exact CalmOp.pure 9 114 (.agg x2.toArray) rfl rfl rfl rfl (fun b w2 hR hB hS2=>by
        have h113:b.eval (.tmp 113)=.pointer (some ⟨g2,oo2 + k * 4,none⟩):=hR 8 8 113 _ rfl (by kernel_rfl)
        clear hR hB
        have e:=run_loadAt_mid (P:=Tryz.prog) w2 _ _ 50 _ _ (range_below ED2.out hS2.2) Tryz.underlying50 rfl hz2
        show Sem.run Tryz.prog (do let v ← Instr.loadAt 50 (b.eval (.tmp 113));pure (Next.value v)) w2=_
        rw [h113,Sem.run_bind,e]
        rfl)
      ·exact CalmOp.call 10 115 (.bool true) #[.agg x1.toArray,.agg x2.toArray] rfl rfl rfl rfl (fun b w2 hR hB hS2=>by
        have h109:b.eval (.tmp 109)=.agg x1.toArray:=hR 4 4 109 _ rfl (by kernel_rfl)
        have h114:b.eval (.tmp 114)=.agg x2.toArray:=hR 9 9 114 _ rfl (by kernel_rfl)
        simp only [Act.eval,Array.getD_eq_getD_getElem?] at h109 h114
        clear hR hB
        unfold execOp
        simp [go_sem,h109,h114]) (fun w2 hS2=>(sameDeclFn HE.out (oneDcl.up (Keep.below hS2.2) HR1.out) (oneDcl.up (Keep.below hS2.2) HR2.out)).mono fun e w3 h=>⟨by rw [h.1],hS2.1.trans (h.2.mono hS2.1.size),hS2.2.trans (h.2.mono hS2.2.size)⟩)
      ·exact CalmOp.pure 11 11 (.bool true) rfl rfl rfl rfl (fun b w2 hR hB hS2=>by
        have h115:b.eval (.tmp 115)=.bool true:=hR 10 10 115 _ rfl (by kernel_rfl)
        simp only [Act.eval,Array.getD_eq_getD_getElem?] at h115
        clear hR hB
        unfold execOp
        simp [go_sem,h115])
     simp only [puts,Act.put,List.setIfInBounds_toArray,List.set_cons_zero,List.set_cons_succ]
     have HK2:=Lib.hid (HK.out.trans (hS9.2.mono HK.out.size))
     go_wp2
     refine ⟨⟨k + 1,by simp,by omega,HK2⟩,?_⟩
     simp [intOf]
     omega
    ·have hk3:k=M:=by omega
     subst hk3
     go_wp2
     refine ⟨⟨i + 1,by simp,by omega,HW⟩,?_⟩
     simp [intOf]
     omega
  ·have hi3:i=N:=by omega
   subst hi3
   go_wp2
   go_ret
   exact ⟨rfl,HB.out⟩
end Go.Proofs.YtpoghableadkcaaGreatDoor
