/- The document's comparison of rows of statements that are the same, places aside (printed by mksam2.py). -/
import Derived.Test.YtpoghableadkcaaGreatDoorSaD
import Derived.Deep.LoopGhost
namespace Go.Proofs.YtpoghableadkcaaGreatDoor
open Go.RowKit
set_option linter.unusedVariables false
set_option linter.unusedSimpArgs false

theorem erL_map:∀ l:List Stm,erL l=l.map erS
 | []=>rfl
 | s :: l=>by rw [erL,erL_map l];rfl
theorem erO_map:∀ l:List (List Stm),erO l=l.map erL
 | []=>rfl
 | s :: l=>by rw [erO,erO_map l];rfl
theorem map_len {A B:Type} {f:A→B} {l m:List A} (h:m.map f=l.map f):m.length=l.length:=by simpa using congrArg List.length h
theorem map_at {A B:Type} {f:A→B} {l m:List A} (h:m.map f=l.map f) (i:Nat) (a:i < l.length) (b:i < m.length):f m[i]=f l[i]:=by
 have h2:(m.map f)[i]?=(l.map f)[i]?:=by rw [h]
 rw [List.getElem?_map,List.getElem?_map,List.getElem?_eq_getElem a,List.getElem?_eq_getElem b] at h2
 simpa using h2
theorem OptsF.at {P:Nat→Prop} {w:World}:∀ {l:List (List Stm)} {f:List Value},OptsF P w l f→∀ {k:Nat} (h:k < l.length),∃ v g,f[k]?=some v∧RowL P w 28 v l[k].length g∧StmsF P w l[k] g
 | [],f,h,k,hk=>by simp at hk
 | a :: l,f,h,k,hk=>by
  rw [OptsF] at h
  obtain ⟨v,r,rfl,⟨g,h2,h3⟩,h4⟩:=h
  cases k with
  | zero=>exact ⟨v,g,rfl,h2,h3⟩
  | succ k=>exact OptsF.at h4 (k:=k) (by simpa using hk)
def SameL (l:List Stm):Prop:=∀ (m:List Stm),erL m=erL l→∀ {P Q:Nat→Prop} {w:World} {u v:Value} {f g:List Value},RowL P w 28 u l.length f→StmsF P w l f→RowL Q w 28 v m.length g→StmsF Q w m g →
 Calls Tryz.prog 24 #[u,v] w fun e w'=>e=.returned (.bool true)∧Below w.heap.size w w'
def SameB:Stm→Prop
 | .mk _ _ _ _ _ _ _ _ _ _ _ _ _ op bo=>SameL bo∧∀ o ∈ op,SameL o
set_option maxHeartbeats 4000000 in
set_option maxRecDepth 1000000 in
theorem sameStmtsFn {l:List Stm} (hl:∀ s ∈ l,SameB s):SameL l:=by
 intro m hm P Q w u v f g h1 g1 h2 g2
 rw [erL_map,erL_map] at hm
 have hlen:=map_len hm
 have her:=fun i a b=>map_at hm i a b
 obtain ⟨ua,uc,rfl,hu1,hu2,_⟩:=h1.form
 obtain ⟨va,vc,rfl,hv1,hv2,_⟩:=h2.form
 obtain ⟨N,hN⟩:∃ N,l.length=N:=⟨_,rfl⟩
 have H1:=Lib.hid h1
 have H2:=Lib.hid h2
 have G1:=Lib.hid g1.ls
 have G2:=Lib.hid g2.ls
 have HH:=Lib.hid hl
 have HL:=Lib.hid hlen
 have HER:=Lib.hid her
 have HN:=Lib.hid hN
 rw [hlen] at hv1 ⊢
 rw [hN] at hu1 hv1 ⊢
 clear hl hm hlen her h1 h2 g1 g2 hN
 go_enter Tryz.func24,Tryz.ntmps24
 go_wp2
 go_loopw [5] (fun x wx=>∃ i:Nat,x=.int .i64 (i:Int)∧i ≤ N∧Hid (Below w.heap.size w wx)) (fun x _=>N - (intOf x).toNat)
 case atStart=>exact ⟨0,rfl,Nat.zero_le _,Below.refl _ _⟩
 case round=>
  obtain ⟨i,hx,hi,HB⟩:=hrel
  subst hx
  by_cases hin:i < N
  ·have hi2:(i:Int) < (N:Int):=by omega
   have hi0:(0:Int) ≤ (i:Int):=by omega
   have hwi:IntKind.i64.wrap (i:Int)=(i:Int):=by rw [IntKind.wrap_i64];omega
   have hwi1:IntKind.i64.wrap ((i:Int) + 1)=(i:Int) + 1:=by rw [IntKind.wrap_i64];omega
   have hil:i < l.length:=by rw [HN.out];exact hin
   have hil2:i < m.length:=by rw [HL.out];exact hil
   obtain ⟨gb,ob,cb,c,he1,hG1,hr1⟩:=(H1.out.up (Keep.below HB.out)).atN oneStm (LsF.up (fun _ _=>oneStm.up (Keep.below HB.out)) _ G1.out) hil
   obtain ⟨gc,oc,cc,d,he2,hG2,hr2⟩:=(H2.out.up (Keep.below HB.out)).atN oneStm (LsF.up (fun _ _=>oneStm.up (Keep.below HB.out)) _ G2.out) hil2
   injection he1 with he1 _ he1'
   subst he1 he1'
   injection he2 with he2 _ he2'
   subst he2 he2'
   have hl1:=oneStm.len hG1
   have hl2:=oneStm.len hG2
   have hs1:(Tryz.prog.info? 57).map (·.size)=some c.length:=by rw [hl1];exact sz_Stm
   have hs2:(Tryz.prog.info? 57).map (·.size)=some d.length:=by rw [hl2];exact sz_Stm
   have HO1:=Lib.hid (oneStm.one hG1)
   have HO2:=Lib.hid (oneStm.one hG2)
   have hZ:Holds (wr.alloc (.cells #[.int .i64 0,.int .i64 0,.string ⟨#[]⟩,.string ⟨#[]⟩,.int .i64 0,.bool false,.bool false,.bool false,.slice none 0 0,.slice none 0 0,.slice none 0 0,.int .i64 0,.int .i64 0,.string ⟨#[]⟩,.string ⟨#[]⟩,.slice none 0 0,.slice none 0 0,.slice none 0 0,.slice none 0 0,.slice none 0 0,.slice none 0 0,.slice none 0 0,.int .i64 0,.string ⟨#[]⟩,.slice none 0 0,.int .i64 0,.slice none 0 0,.slice none 0 0] 57)) wr.heap.size 57 [.int .i64 0,.int .i64 0,.string ⟨#[]⟩,.string ⟨#[]⟩,.int .i64 0,.bool false,.bool false,.bool false,.slice none 0 0,.slice none 0 0,.slice none 0 0,.int .i64 0,.int .i64 0,.string ⟨#[]⟩,.string ⟨#[]⟩,.slice none 0 0,.slice none 0 0,.slice none 0 0,.slice none 0 0,.slice none 0 0,.slice none 0 0,.slice none 0 0,.int .i64 0,.string ⟨#[]⟩,.slice none 0 0,.int .i64 0,.slice none 0 0,.slice none 0 0]:=Holds.new wr 57 #[.int .i64 0,.int .i64 0,.string ⟨#[]⟩,.string ⟨#[]⟩,.int .i64 0,.bool false,.bool false,.bool false,.slice none 0 0,.slice none 0 0,.slice none 0 0,.int .i64 0,.int .i64 0,.string ⟨#[]⟩,.string ⟨#[]⟩,.slice none 0 0,.slice none 0 0,.slice none 0 0,.slice none 0 0,.slice none 0 0,.slice none 0 0,.slice none 0 0,.int .i64 0,.string ⟨#[]⟩,.slice none 0 0,.int .i64 0,.slice none 0 0,.slice none 0 0]
   have HZ:=Lib.hid hZ
   have HR1:=Lib.hid hr1
   have HR2:=Lib.hid hr2
   have HG1:=Lib.hid hG1
   have HG2:=Lib.hid hG2
   clear hr1 hr2 hG1 hG2 hZ
   go_wp2_with (first | (refine wpList_load_mid rfl 57 _ rfl gb (ob + i * 28) rfl c _ HR1.out Tryz.underlying57 rfl hs1 ?_) | (refine wpList_storeB rfl 57 _ _ rfl wr.heap.size 0 c rfl rfl HZ.out (by rw [hl1];exact Nat.le_of_ble_eq_true rfl) hs1 HO1.out ?_))
   refine Named.mk (fun w7 hW=>?_)
   have hB7:Below wr.heap.size wr w7:=by rw [hW];exact Below.far (Below.refl _ _) (Nat.le_refl _) _ _ _
   have hD7:=HZ.out.stored hW (by rw [hl1];exact Nat.le_of_ble_eq_true rfl)
   rw [List.take_zero,List.nil_append,List.drop_of_length_le (by rw [hl1];exact Nat.le_of_ble_eq_true rfl),List.append_nil] at hD7
   have HX7:=Lib.hid hD7
   have HB7:=Lib.hid hB7
   have hZ:Holds (w7.alloc (.cells #[.int .i64 0,.int .i64 0,.string ⟨#[]⟩,.string ⟨#[]⟩,.int .i64 0,.bool false,.bool false,.bool false,.slice none 0 0,.slice none 0 0,.slice none 0 0,.int .i64 0,.int .i64 0,.string ⟨#[]⟩,.string ⟨#[]⟩,.slice none 0 0,.slice none 0 0,.slice none 0 0,.slice none 0 0,.slice none 0 0,.slice none 0 0,.slice none 0 0,.int .i64 0,.string ⟨#[]⟩,.slice none 0 0,.int .i64 0,.slice none 0 0,.slice none 0 0] 57)) w7.heap.size 57 [.int .i64 0,.int .i64 0,.string ⟨#[]⟩,.string ⟨#[]⟩,.int .i64 0,.bool false,.bool false,.bool false,.slice none 0 0,.slice none 0 0,.slice none 0 0,.int .i64 0,.int .i64 0,.string ⟨#[]⟩,.string ⟨#[]⟩,.slice none 0 0,.slice none 0 0,.slice none 0 0,.slice none 0 0,.slice none 0 0,.slice none 0 0,.slice none 0 0,.int .i64 0,.string ⟨#[]⟩,.slice none 0 0,.int .i64 0,.slice none 0 0,.slice none 0 0]:=Holds.new w7 57 #[.int .i64 0,.int .i64 0,.string ⟨#[]⟩,.string ⟨#[]⟩,.int .i64 0,.bool false,.bool false,.bool false,.slice none 0 0,.slice none 0 0,.slice none 0 0,.int .i64 0,.int .i64 0,.string ⟨#[]⟩,.string ⟨#[]⟩,.slice none 0 0,.slice none 0 0,.slice none 0 0,.slice none 0 0,.slice none 0 0,.slice none 0 0,.slice none 0 0,.int .i64 0,.string ⟨#[]⟩,.slice none 0 0,.int .i64 0,.slice none 0 0,.slice none 0 0]
   have HZ7:=Lib.hid hZ
   have HR7:=Lib.hid (range_below HR2.out hB7)
   clear hW hB7 hD7 hZ HZ HR1 HR2
   go_wp2_with (first | (refine wpList_load_mid rfl 57 _ rfl gc (oc + i * 28) rfl d _ HR7.out Tryz.underlying57 rfl hs2 ?_) | (refine wpList_storeB rfl 57 _ _ rfl w7.heap.size 0 d rfl rfl HZ7.out (by rw [hl2];exact Nat.le_of_ble_eq_true rfl) hs2 HO2.out ?_))
   refine Named.mk (fun w8 hW=>?_)
   have hB8:Below w7.heap.size w7 w8:=by rw [hW];exact Below.far (Below.refl _ _) (Nat.le_refl _) _ _ _
   have hD8:=HZ7.out.stored hW (by rw [hl2];exact Nat.le_of_ble_eq_true rfl)
   rw [List.take_zero,List.nil_append,List.drop_of_length_le (by rw [hl2];exact Nat.le_of_ble_eq_true rfl),List.append_nil] at hD8
   have hBr:Below wr.heap.size wr w8:=HB7.out.trans (hB8.mono HB7.out.size)
   have hX8:=HX7.out.belowAll hB8
   have HB8:=Lib.hid (HB.out.trans (hBr.mono HB.out.size))
   have hG1:=oneStm.up (Keep.below hBr) HG1.out
   have hG2:=oneStm.up (Keep.below hBr) HG2.out
   clear hW HZ7 HR7 HX7 HB7 HG1 HG2 hB8 hl1 hl2 hs1 hs2 HO1 HO2
   obtain ⟨X,hX⟩:∃ X,wr.heap.size=X:=⟨_,rfl⟩
   obtain ⟨Y,hY⟩:∃ Y,w7.heap.size=Y:=⟨_,rfl⟩
   rw [hX] at hX8 ⊢
   rw [hY] at hD8 ⊢
   clear hX hY
   have hmem:SameB l[i]:=HH.out _ (List.getElem_mem hil)
   have he:=HER.out i hil hil2
   obtain ⟨s,hs⟩:∃ s,l[i]=s:=⟨_,rfl⟩
   obtain ⟨s2,hs2⟩:∃ s,m[i]=s:=⟨_,rfl⟩
   rw [hs] at hG1 hmem he
   rw [hs2] at hG2 he
   clear hs hs2
   cases s with
   | mk kd2 at1 nm2 tx2 nn2 so2 ra2 ke2 rf2 ee2 es2 ar2 dd op bo=>
    cases s2 with
    | mk kd at2 nm tx n so ra ke rf e es ar d2 o2 b2=>
     simp only [erS,Stm.mk.injEq,true_and] at he
     obtain ⟨rfl,rfl,rfl,rfl,rfl,rfl,rfl,rfl,rfl,rfl,rfl,hd,ho,hb⟩:=he
     rw [StmF] at hG1
     obtain ⟨rn,ri,rh,en,ei,eh,ek,ea,ves,vas,dvv,vo,vb,rfl,p1,p2,⟨f3,p3,p3'⟩,⟨f4,p4,p4'⟩,⟨f5,p5,p5'⟩,⟨f6,p6,p6'⟩,⟨f7,p7,p7'⟩⟩:=hG1
     obtain ⟨xr1,xm1,xk1,xr2,xm2,xk2,xr3,xm3,xk3,rfl,rfl,rfl⟩:=RfF.forms p1
     obtain ⟨xa1,xn1,xc1,xa2,xn2,xc2,xa3,xn3,xc3,xa4,xn4,xc4,xa5,xn5,xc5,rfl,rfl,rfl,rfl,rfl⟩:=p2.forms
     obtain ⟨xes,xec,rfl,_⟩:=p3.form
     obtain ⟨xgs,xgc,rfl,_⟩:=p4.form
     obtain ⟨xds,xdc,rfl,_⟩:=p5.form
     obtain ⟨xos,xoc,rfl,xo1,xo2,_⟩:=p6.form
     obtain ⟨xbs,xbc,rfl,_⟩:=p7.form
     rw [StmF] at hG2
     obtain ⟨rn,ri,rh,en,ei,eh,ek,ea,ves,vas,dvv,vo,vb,rfl,z1,z2,⟨f3,z3,z3'⟩,⟨f4,z4,z4'⟩,⟨f5,z5,z5'⟩,⟨f6,z6,z6'⟩,⟨f7,z7,z7'⟩⟩:=hG2
     obtain ⟨yr1,ym1,yk1,yr2,ym2,yk2,yr3,ym3,yk3,rfl,rfl,rfl⟩:=RfF.forms z1
     obtain ⟨ya1,yn1,yc1,ya2,yn2,yc2,ya3,yn3,yc3,ya4,yn4,yc4,ya5,yn5,yc5,rfl,rfl,rfl,rfl,rfl⟩:=z2.forms
     obtain ⟨yes,yec,rfl,_⟩:=z3.form
     obtain ⟨ygs,ygc,rfl,_⟩:=z4.form
     obtain ⟨yds,ydc,rfl,_⟩:=z5.form
     obtain ⟨yos,yoc,rfl,yo1,yo2,_⟩:=z6.form
     obtain ⟨ybs,ybc,rfl,_⟩:=z7.form
     rw [erO_map,erO_map] at ho
     have hol:=map_len ho
     have hoe:=fun i a b=>map_at ho i a b
     have HX:Hid (Holds w8 X 57 [.int .i64 (kd:Int),.int .i64 (at1:Int),.string ⟨nm.toArray⟩,.string ⟨tx.toArray⟩,.int .i64 n,.bool so,.bool ra,.bool ke,.slice xr1 xm1 xk1,.slice xr2 xm2 xk2,.slice xr3 xm3 xk3,.int .i64 (e.kind:Int),.int .i64 e.n,.string ⟨e.name.toArray⟩,.string ⟨e.label.toArray⟩,.slice xa1 xn1 xc1,.slice xa2 xn2 xc2,.slice xa3 xn3 xc3,.slice xa4 xn4 xc4,.slice xa5 xn5 xc5,.slice xes es.length xec,.slice xgs ar.length xgc,.int .i64 dd.type,.string ⟨dd.named.toArray⟩,.slice xds dd.vars.length xdc,.int .i64 (dd.at_:Int),.slice xos op.length xoc,.slice xbs bo.length xbc]):=hX8
     have HY:Hid (Holds w8 Y 57 [.int .i64 (kd:Int),.int .i64 (at2:Int),.string ⟨nm.toArray⟩,.string ⟨tx.toArray⟩,.int .i64 n,.bool so,.bool ra,.bool ke,.slice yr1 ym1 yk1,.slice yr2 ym2 yk2,.slice yr3 ym3 yk3,.int .i64 (e.kind:Int),.int .i64 e.n,.string ⟨e.name.toArray⟩,.string ⟨e.label.toArray⟩,.slice ya1 yn1 yc1,.slice ya2 yn2 yc2,.slice ya3 yn3 yc3,.slice ya4 yn4 yc4,.slice ya5 yn5 yc5,.slice yes es.length yec,.slice ygs ar.length ygc,.int .i64 d2.type,.string ⟨d2.named.toArray⟩,.slice yds d2.vars.length ydc,.int .i64 (d2.at_:Int),.slice yos o2.length yoc,.slice ybs b2.length ybc]):=hD8
     have HMEM:Hid (SameL bo∧∀ o ∈ op,SameL o):=hmem
     have HD:Hid (erD d2=erD dd):=hd
     have HOL:=Lib.hid hol
     have HOE:=Lib.hid hoe
     have HBO:=Lib.hid hb
     have HP1:=Lib.hid p1
     have HP2:=Lib.hid p2
     have HP3:=Lib.hid p3
     have HP4:=Lib.hid p4
     have HP5:=Lib.hid p5
     have HP6:=Lib.hid p6
     have HP7:=Lib.hid p7
     have HP3':=Lib.hid p3'.ls
     have HP4':=Lib.hid p4'.ls
     have HP5':=Lib.hid p5'
     have HP6':=Lib.hid p6'
     have HP7':=Lib.hid p7'
     have HQ1:=Lib.hid z1
     have HQ2:=Lib.hid z2
     have HQ3:=Lib.hid z3
     have HQ4:=Lib.hid z4
     have HQ5:=Lib.hid z5
     have HQ6:=Lib.hid z6
     have HQ7:=Lib.hid z7
     have HQ3':=Lib.hid z3'.ls
     have HQ4':=Lib.hid z4'.ls
     have HQ5':=Lib.hid z5'
     have HQ6':=Lib.hid z6'
     have HQ7':=Lib.hid z7'
     clear hX8 hD8 hmem hd ho hol hoe hb p1 p2 p3 p4 p5 p6 p7 z1 z2 z3 z4 z5 z6 z7
     clear p3' p4' p5' p6' p7' z3' z4' z5' z6' z7'
     have f8:w8.cell? ⟨X,8,none⟩=some (.slice xr1 xm1 xk1):=HX.out.cell 8
     have f8':w8.cell? ⟨Y,8,none⟩=some (.slice yr1 ym1 yk1):=HY.out.cell 8
     have f9:w8.cell? ⟨X,9,none⟩=some (.slice xr2 xm2 xk2):=HX.out.cell 9
     have f9':w8.cell? ⟨Y,9,none⟩=some (.slice yr2 ym2 yk2):=HY.out.cell 9
     have f10:w8.cell? ⟨X,10,none⟩=some (.slice xr3 xm3 xk3):=HX.out.cell 10
     have f10':w8.cell? ⟨Y,10,none⟩=some (.slice yr3 ym3 yk3):=HY.out.cell 10
     have HC:=Lib.hid (sameRefFn (fun a _=>sameD a) HP1.out HQ1.out)
     go_wp2_with (fail)
     refine HC.out.mono ?_
     rintro e w9 ⟨rfl,hb⟩
     have HB9:=Lib.hid (hb)
     clear hb HC f8 f8' f9 f9' f10 f10'
     have f11:w9.cell? ⟨X,11,none⟩=some (.int .i64 (e.kind:Int)):=(HX.out.belowAll HB9.out).cell 11
     have f11':w9.cell? ⟨Y,11,none⟩=some (.int .i64 (e.kind:Int)):=(HY.out.belowAll HB9.out).cell 11
     have f12:w9.cell? ⟨X,12,none⟩=some (.int .i64 e.n):=(HX.out.belowAll HB9.out).cell 12
     have f12':w9.cell? ⟨Y,12,none⟩=some (.int .i64 e.n):=(HY.out.belowAll HB9.out).cell 12
     have f13:w9.cell? ⟨X,13,none⟩=some (.string ⟨e.name.toArray⟩):=(HX.out.belowAll HB9.out).cell 13
     have f13':w9.cell? ⟨Y,13,none⟩=some (.string ⟨e.name.toArray⟩):=(HY.out.belowAll HB9.out).cell 13
     have f14:w9.cell? ⟨X,14,none⟩=some (.string ⟨e.label.toArray⟩):=(HX.out.belowAll HB9.out).cell 14
     have f14':w9.cell? ⟨Y,14,none⟩=some (.string ⟨e.label.toArray⟩):=(HY.out.belowAll HB9.out).cell 14
     have f15:w9.cell? ⟨X,15,none⟩=some (.slice xa1 xn1 xc1):=(HX.out.belowAll HB9.out).cell 15
     have f15':w9.cell? ⟨Y,15,none⟩=some (.slice ya1 yn1 yc1):=(HY.out.belowAll HB9.out).cell 15
     have f16:w9.cell? ⟨X,16,none⟩=some (.slice xa2 xn2 xc2):=(HX.out.belowAll HB9.out).cell 16
     have f16':w9.cell? ⟨Y,16,none⟩=some (.slice ya2 yn2 yc2):=(HY.out.belowAll HB9.out).cell 16
     have f17:w9.cell? ⟨X,17,none⟩=some (.slice xa3 xn3 xc3):=(HX.out.belowAll HB9.out).cell 17
     have f17':w9.cell? ⟨Y,17,none⟩=some (.slice ya3 yn3 yc3):=(HY.out.belowAll HB9.out).cell 17
     have f18:w9.cell? ⟨X,18,none⟩=some (.slice xa4 xn4 xc4):=(HX.out.belowAll HB9.out).cell 18
     have f18':w9.cell? ⟨Y,18,none⟩=some (.slice ya4 yn4 yc4):=(HY.out.belowAll HB9.out).cell 18
     have f19:w9.cell? ⟨X,19,none⟩=some (.slice xa5 xn5 xc5):=(HX.out.belowAll HB9.out).cell 19
     have f19':w9.cell? ⟨Y,19,none⟩=some (.slice ya5 yn5 yc5):=(HY.out.belowAll HB9.out).cell 19
     have HC:=Lib.hid (show Calls _ _ #[.agg #[.int .i64 (e.kind:Int),.int .i64 e.n,.string ⟨e.name.toArray⟩,.string ⟨e.label.toArray⟩,.slice xa1 xn1 xc1,.slice xa2 xn2 xc2,.slice xa3 xn3 xc3,.slice xa4 xn4 xc4,.slice xa5 xn5 xc5],.agg #[.int .i64 (e.kind:Int),.int .i64 e.n,.string ⟨e.name.toArray⟩,.string ⟨e.label.toArray⟩,.slice ya1 yn1 yc1,.slice ya2 yn2 yc2,.slice ya3 yn3 yc3,.slice ya4 yn4 yc4,.slice ya5 yn5 yc5]] w9 _ from sameD e (c:=[.int .i64 (e.kind:Int),.int .i64 e.n,.string ⟨e.name.toArray⟩,.string ⟨e.label.toArray⟩,.slice xa1 xn1 xc1,.slice xa2 xn2 xc2,.slice xa3 xn3 xc3,.slice xa4 xn4 xc4,.slice xa5 xn5 xc5]) (d:=[.int .i64 (e.kind:Int),.int .i64 e.n,.string ⟨e.name.toArray⟩,.string ⟨e.label.toArray⟩,.slice ya1 yn1 yc1,.slice ya2 yn2 yc2,.slice ya3 yn3 yc3,.slice ya4 yn4 yc4,.slice ya5 yn5 yc5]) ⟨_,_,_,_,_,rfl,(HP2.out.up (Keep.below HB9.out))⟩ ⟨_,_,_,_,_,rfl,(HQ2.out.up (Keep.below HB9.out))⟩)
     go_wp2_with (fail)
     refine HC.out.mono ?_
     rintro e w10 ⟨rfl,hb⟩
     have HB10:=Lib.hid (HB9.out.trans (hb.mono HB9.out.size))
     clear hb HC f11 f11' f12 f12' f13 f13' f14 f14' f15 f15' f16 f16' f17 f17' f18 f18' f19 f19'
     have f20:w10.cell? ⟨X,20,none⟩=some (.slice xes es.length xec):=(HX.out.belowAll HB10.out).cell 20
     have f20':w10.cell? ⟨Y,20,none⟩=some (.slice yes es.length yec):=(HY.out.belowAll HB10.out).cell 20
     have HC:=Lib.hid (sameAstsFn (fun a _=>sameD a) (HP3.out.up (Keep.below HB10.out)) (LsF.up (fun _ _=>oneAst.up (Keep.below HB10.out)) _ HP3'.out) (HQ3.out.up (Keep.below HB10.out)) (LsF.up (fun _ _=>oneAst.up (Keep.below HB10.out)) _ HQ3'.out))
     go_wp2_with (fail)
     refine HC.out.mono ?_
     rintro e w11 ⟨rfl,hb⟩
     have HB11:=Lib.hid (HB10.out.trans (hb.mono HB10.out.size))
     clear hb HC f20 f20'
     have f21:w11.cell? ⟨X,21,none⟩=some (.slice xgs ar.length xgc):=(HX.out.belowAll HB11.out).cell 21
     have f21':w11.cell? ⟨Y,21,none⟩=some (.slice ygs ar.length ygc):=(HY.out.belowAll HB11.out).cell 21
     have HC:=Lib.hid (sameArgsFn (fun _ _ e _=>sameD e) (HP4.out.up (Keep.below HB11.out)) (LsF.up (fun _ _=>oneArgG.up (Keep.below HB11.out)) _ HP4'.out) (HQ4.out.up (Keep.below HB11.out)) (LsF.up (fun _ _=>oneArgG.up (Keep.below HB11.out)) _ HQ4'.out))
     go_wp2_with (fail)
     refine HC.out.mono ?_
     rintro e w12 ⟨rfl,hb⟩
     have HB12:=Lib.hid (HB11.out.trans (hb.mono HB11.out.size))
     clear hb HC f21 f21'
     have f22:w12.cell? ⟨X,22,none⟩=some (.int .i64 dd.type):=(HX.out.belowAll HB12.out).cell 22
     have f22':w12.cell? ⟨Y,22,none⟩=some (.int .i64 d2.type):=(HY.out.belowAll HB12.out).cell 22
     have f23:w12.cell? ⟨X,23,none⟩=some (.string ⟨dd.named.toArray⟩):=(HX.out.belowAll HB12.out).cell 23
     have f23':w12.cell? ⟨Y,23,none⟩=some (.string ⟨d2.named.toArray⟩):=(HY.out.belowAll HB12.out).cell 23
     have f24:w12.cell? ⟨X,24,none⟩=some (.slice xds dd.vars.length xdc):=(HX.out.belowAll HB12.out).cell 24
     have f24':w12.cell? ⟨Y,24,none⟩=some (.slice yds d2.vars.length ydc):=(HY.out.belowAll HB12.out).cell 24
     have f25:w12.cell? ⟨X,25,none⟩=some (.int .i64 (dd.at_:Int)):=(HX.out.belowAll HB12.out).cell 25
     have f25':w12.cell? ⟨Y,25,none⟩=some (.int .i64 (d2.at_:Int)):=(HY.out.belowAll HB12.out).cell 25
     have HC:=Lib.hid (show Calls _ _ #[.agg #[.int .i64 dd.type,.string ⟨dd.named.toArray⟩,.slice xds dd.vars.length xdc,.int .i64 (dd.at_:Int)],.agg #[.int .i64 d2.type,.string ⟨d2.named.toArray⟩,.slice yds d2.vars.length ydc,.int .i64 (d2.at_:Int)]] w12 _ from sameDeclFn HD.out (c1:=[.int .i64 dd.type,.string ⟨dd.named.toArray⟩,.slice xds dd.vars.length xdc,.int .i64 (dd.at_:Int)]) (c2:=[.int .i64 d2.type,.string ⟨d2.named.toArray⟩,.slice yds d2.vars.length ydc,.int .i64 (d2.at_:Int)]) ⟨_,rfl,_,(HP5.out.up (Keep.below HB12.out)),DvsF.up (Keep.below HB12.out) _ HP5'.out⟩ ⟨_,rfl,_,(HQ5.out.up (Keep.below HB12.out)),DvsF.up (Keep.below HB12.out) _ HQ5'.out⟩)
     go_wp2_with (fail)
     refine HC.out.mono ?_
     rintro e w13 ⟨rfl,hb⟩
     have HB13:=Lib.hid (HB12.out.trans (hb.mono HB12.out.size))
     clear hb HC f22 f22' f23 f23' f24 f24' f25 f25'
     have f27:w13.cell? ⟨X,27,none⟩=some (.slice xbs bo.length xbc):=(HX.out.belowAll HB13.out).cell 27
     have f27':w13.cell? ⟨Y,27,none⟩=some (.slice ybs b2.length ybc):=(HY.out.belowAll HB13.out).cell 27
     have HC:=Lib.hid (HMEM.out.1 b2 HBO.out (HP7.out.up (Keep.below HB13.out)) (StmsF.up (Keep.below HB13.out) _ HP7'.out) (HQ7.out.up (Keep.below HB13.out)) (StmsF.up (Keep.below HB13.out) _ HQ7'.out))
     go_wp2_with (fail)
     refine HC.out.mono ?_
     rintro e w14 ⟨rfl,hb⟩
     have HB14:=Lib.hid (HB13.out.trans (hb.mono HB13.out.size))
     clear hb HC f27 f27'
     have f26:w14.cell? ⟨X,26,none⟩=some (.slice xos op.length xoc):=(HX.out.belowAll HB14.out).cell 26
     have f26':w14.cell? ⟨Y,26,none⟩=some (.slice yos o2.length yoc):=(HY.out.belowAll HB14.out).cell 26
     have f0:w14.cell? ⟨X,0,none⟩=some (.int .i64 (kd:Int)):=(HX.out.belowAll HB14.out).cell 0
     have f0':w14.cell? ⟨Y,0,none⟩=some (.int .i64 (kd:Int)):=(HY.out.belowAll HB14.out).cell 0
     have f2:w14.cell? ⟨X,2,none⟩=some (.string ⟨nm.toArray⟩):=(HX.out.belowAll HB14.out).cell 2
     have f2':w14.cell? ⟨Y,2,none⟩=some (.string ⟨nm.toArray⟩):=(HY.out.belowAll HB14.out).cell 2
     have f3:w14.cell? ⟨X,3,none⟩=some (.string ⟨tx.toArray⟩):=(HX.out.belowAll HB14.out).cell 3
     have f3':w14.cell? ⟨Y,3,none⟩=some (.string ⟨tx.toArray⟩):=(HY.out.belowAll HB14.out).cell 3
     have f4:w14.cell? ⟨X,4,none⟩=some (.int .i64 n):=(HX.out.belowAll HB14.out).cell 4
     have f4':w14.cell? ⟨Y,4,none⟩=some (.int .i64 n):=(HY.out.belowAll HB14.out).cell 4
     have f5:w14.cell? ⟨X,5,none⟩=some (.bool so):=(HX.out.belowAll HB14.out).cell 5
     have f5':w14.cell? ⟨Y,5,none⟩=some (.bool so):=(HY.out.belowAll HB14.out).cell 5
     have f6:w14.cell? ⟨X,6,none⟩=some (.bool ra):=(HX.out.belowAll HB14.out).cell 6
     have f6':w14.cell? ⟨Y,6,none⟩=some (.bool ra):=(HY.out.belowAll HB14.out).cell 6
     have f7:w14.cell? ⟨X,7,none⟩=some (.bool ke):=(HX.out.belowAll HB14.out).cell 7
     have f7':w14.cell? ⟨Y,7,none⟩=some (.bool ke):=(HY.out.belowAll HB14.out).cell 7
     obtain ⟨M,hM⟩:∃ M,op.length=M:=⟨_,rfl⟩
     have HM:=Lib.hid hM
     have HXn:=Lib.hid (HX.out.belowAll HB14.out)
     have HYn:=Lib.hid (HY.out.belowAll HB14.out)
     have H3:=Lib.hid (HP6.out.up (Keep.below HB14.out))
     have H4:=Lib.hid (HQ6.out.up (Keep.below HB14.out))
     have H5:=Lib.hid (OptsF.up (Keep.below HB14.out) _ HP6'.out)
     have H6:=Lib.hid (OptsF.up (Keep.below HB14.out) _ HQ6'.out)
     rw [HOL.out] at f26' yo1
     have HWn:=Lib.hid (HB8.out.trans (HB14.out.mono HB8.out.size))
     rw [hM] at f26 f26' xo1 yo1
     clear hM HX HY HP1 HP2 HP3 HP4 HP5 HP6 HP7 HQ1 HQ2 HQ3 HQ4 HQ5 HQ6 HQ7 HP3' HP4' HP5' HP6' HP7' HQ3' HQ4' HQ5' HQ6' HQ7'
     go_wp2
     clear f26 f26' f0 f0' f2 f2' f3 f3' f4 f4' f5 f5' f6 f6' f7 f7'
     go_loopw [10] (fun x wx=>∃ k:Nat,x=.int .i64 (k:Int)∧k ≤ M∧Hid (Below w14.heap.size w14 wx)) (fun x _=>M - (intOf x).toNat)
     case atStart=>exact ⟨0,rfl,Nat.zero_le _,Below.refl _ _⟩
     case round=>
      obtain ⟨k,hx,hk,HK⟩:=hrel
      subst hx
      have HW:=Lib.hid (HWn.out.trans (HK.out.mono HWn.out.size))
      have eA:wr.cell? ⟨X,26,none⟩=some (.slice xos M xoc):=(HXn.out.belowAll HK.out).cell 26 |>.trans (by rw [← HM.out];rfl)
      have eB:wr.cell? ⟨Y,26,none⟩=some (.slice yos M yoc):=(HYn.out.belowAll HK.out).cell 26 |>.trans (by rw [← HM.out,← HOL.out];rfl)
      by_cases hkn:k < M
      ·have hk2:(k:Int) < (M:Int):=by omega
       have hk0:(0:Int) ≤ (k:Int):=by omega
       have hwk:IntKind.i64.wrap (k:Int)=(k:Int):=by rw [IntKind.wrap_i64];omega
       have hwk1:IntKind.i64.wrap ((k:Int) + 1)=(k:Int) + 1:=by rw [IntKind.wrap_i64];omega
       have hkl:k < op.length:=by rw [HM.out];exact hkn
       have hkl2:k < o2.length:=by rw [HOL.out];exact hkl
       obtain ⟨g1,o1,y1,x1,he1,hf1,hd1⟩:=(H3.out.up (Keep.below HK.out)).at1 hkl
       obtain ⟨g2,oo2,y2,x2,he2,hf2,hd2⟩:=(H4.out.up (Keep.below HK.out)).at1 hkl2
       injection he1 with he1 _ he1'
       subst he1 he1'
       injection he2 with he2 _ he2'
       subst he2 he2'
       obtain ⟨v1,r1,hv1,hr1,hs1⟩:=(OptsF.up (Keep.below HK.out) _ H5.out).at hkl
       obtain ⟨v2,r2,hv2,hr2,hs2⟩:=(OptsF.up (Keep.below HK.out) _ H6.out).at hkl2
       rw [hf1] at hv1
       rw [hf2] at hv2
       injection hv1 with hv1
       injection hv2 with hv2
       subst hv1 hv2
       have HS:=Lib.hid (HMEM.out.2 _ (List.getElem_mem hkl))
       have HE:=Lib.hid (HOE.out k hkl hkl2)
       have ED1:=Lib.hid hd1
       have ED2:=Lib.hid hd2
       have HR1:=Lib.hid hr1
       have HR2:=Lib.hid hr2
       have HS1:=Lib.hid hs1
       have HS2:=Lib.hid hs2
       clear hd1 hd2 hr1 hr2 hs1 hs2 hf1 hf2
       have EA:=Lib.hid eA
       have EB:=Lib.hid eB
       go_wp2
       clear eA eB
       refine wp_region_puts (fun w2=>Below w.heap.size w w2∧Below wr.heap.size wr w2) [(0,140,.pointer (some ⟨X,26,none⟩)),(1,141,.slice (some ⟨g1,o1,none⟩) M xoc),(2,142,.int .i64 (k:Int)),(3,143,.pointer (some ⟨g1,o1 + k,none⟩)),(4,144,x1),(5,145,.pointer (some ⟨Y,26,none⟩)),(6,146,.slice (some ⟨g2,oo2,none⟩) M yoc),(7,147,.int .i64 (k:Int)),(8,148,.pointer (some ⟨g2,oo2 + k,none⟩)),(9,149,x2),(10,150,.bool true),(11,11,.bool true)] 153 rfl (by kernel_rfl) (by kernel_rfl) (by kernel_rfl) ⟨⟨HW.out.os,HW.out.tape,HW.out.output,HW.out.size,HW.out.block⟩,⟨rfl,rfl,rfl,Nat.le_refl _,fun _ _=>rfl⟩⟩ (fun i hi=>?_) (fun w9 hS9=>?_)
       ·have hi2:i < 12:=hi
        clear hi
        have hi3:i=0∨i=1∨i=2∨i=3∨i=4∨i=5∨i=6∨i=7∨i=8∨i=9∨i=10∨i=11:=by omega
        clear hi2
        rcases hi3 with rfl | rfl | rfl | rfl | rfl | rfl | rfl | rfl | rfl | rfl | rfl | rfl
        ·exact CalmOp.pure 0 140 (.pointer (some ⟨X,26,none⟩)) rfl rfl rfl rfl (fun b w2 hR hB hS2=>by
          have h6:b.eval (.tmp 6)=.pointer (some ⟨X,0,none⟩):=(hB 6 (by decide) (by kernel_rfl) (by kernel_rfl)).trans rfl
          simp only [Act.eval,Array.getD_eq_getD_getElem?] at h6
          clear hR hB
          unfold execOp
          simp [go_sem,h6])
        ·exact CalmOp.pure 1 141 (.slice (some ⟨g1,o1,none⟩) M xoc) rfl rfl rfl rfl (fun b w2 hR hB hS2=>by
          have h140:b.eval (.tmp 140)=.pointer (some ⟨X,26,none⟩):=hR 0 0 140 _ rfl (by kernel_rfl)
          simp only [Act.eval,Array.getD_eq_getD_getElem?] at h140
          clear hR hB
          unfold execOp
          have e:=(hS2.2.cell (World.block_lt_of_cell? _ _ EA.out)).trans EA.out
          simp [go_sem,h140,e])
        ·exact CalmOp.pure 2 142 (.int .i64 (k:Int)) rfl rfl rfl rfl (fun b w2 hR hB hS2=>by
          have h10:b.eval (.tmp 10)=.int .i64 (k:Int):=(hB 10 (by decide) (by kernel_rfl) (by kernel_rfl)).trans rfl
          simp only [Act.eval,Array.getD_eq_getD_getElem?] at h10
          clear hR hB
          unfold execOp
          simp [go_sem,h10])
        ·exact CalmOp.pure 3 143 (.pointer (some ⟨g1,o1 + k,none⟩)) rfl rfl rfl rfl (fun b w2 hR hB hS2=>by
          have h141:b.eval (.tmp 141)=.slice (some ⟨g1,o1,none⟩) M xoc:=hR 1 1 141 _ rfl (by kernel_rfl)
          have h142:b.eval (.tmp 142)=.int .i64 (k:Int):=hR 2 2 142 _ rfl (by kernel_rfl)
          simp only [Act.eval,Array.getD_eq_getD_getElem?] at h141 h142
          clear hR hB
          unfold execOp
          simp [go_sem,h141,h142,hk0,hk2,hwk])
        ·exact CalmOp.pure 4 144 (x1) rfl rfl rfl rfl (fun b w2 hR hB hS2=>by
          have h143:b.eval (.tmp 143)=.pointer (some ⟨g1,o1 + k,none⟩):=hR 3 3 143 _ rfl (by kernel_rfl)
          simp only [Act.eval,Array.getD_eq_getD_getElem?] at h143
          clear hR hB
          unfold execOp
          have e:=(hS2.2.cell (World.block_lt_of_cell? _ _ ED1.out)).trans ED1.out
          simp [go_sem,h143,e])
        ·exact CalmOp.pure 5 145 (.pointer (some ⟨Y,26,none⟩)) rfl rfl rfl rfl (fun b w2 hR hB hS2=>by
          have h7:b.eval (.tmp 7)=.pointer (some ⟨Y,0,none⟩):=(hB 7 (by decide) (by kernel_rfl) (by kernel_rfl)).trans rfl
          simp only [Act.eval,Array.getD_eq_getD_getElem?] at h7
          clear hR hB
          unfold execOp
          simp [go_sem,h7])
        ·exact CalmOp.pure 6 146 (.slice (some ⟨g2,oo2,none⟩) M yoc) rfl rfl rfl rfl (fun b w2 hR hB hS2=>by
          have h145:b.eval (.tmp 145)=.pointer (some ⟨Y,26,none⟩):=hR 5 5 145 _ rfl (by kernel_rfl)
          simp only [Act.eval,Array.getD_eq_getD_getElem?] at h145
          clear hR hB
          unfold execOp
          have e:=(hS2.2.cell (World.block_lt_of_cell? _ _ EB.out)).trans EB.out
          simp [go_sem,h145,e])
        ·exact CalmOp.pure 7 147 (.int .i64 (k:Int)) rfl rfl rfl rfl (fun b w2 hR hB hS2=>by
          have h10:b.eval (.tmp 10)=.int .i64 (k:Int):=(hB 10 (by decide) (by kernel_rfl) (by kernel_rfl)).trans rfl
          simp only [Act.eval,Array.getD_eq_getD_getElem?] at h10
          clear hR hB
          unfold execOp
          simp [go_sem,h10])
        ·exact CalmOp.pure 8 148 (.pointer (some ⟨g2,oo2 + k,none⟩)) rfl rfl rfl rfl (fun b w2 hR hB hS2=>by
          have h146:b.eval (.tmp 146)=.slice (some ⟨g2,oo2,none⟩) M yoc:=hR 6 6 146 _ rfl (by kernel_rfl)
          have h147:b.eval (.tmp 147)=.int .i64 (k:Int):=hR 7 7 147 _ rfl (by kernel_rfl)
          simp only [Act.eval,Array.getD_eq_getD_getElem?] at h146 h147
          clear hR hB
          unfold execOp
          simp [go_sem,h146,h147,hk0,hk2,hwk])
        ·exact CalmOp.pure 9 149 (x2) rfl rfl rfl rfl (fun b w2 hR hB hS2=>by
          have h148:b.eval (.tmp 148)=.pointer (some ⟨g2,oo2 + k,none⟩):=hR 8 8 148 _ rfl (by kernel_rfl)
          simp only [Act.eval,Array.getD_eq_getD_getElem?] at h148
          clear hR hB
          unfold execOp
          have e:=(hS2.2.cell (World.block_lt_of_cell? _ _ ED2.out)).trans ED2.out
          simp [go_sem,h148,e])
        ·exact CalmOp.call 10 150 (.bool true) #[x1,x2] rfl rfl rfl rfl (fun b w2 hR hB hS2=>by
          have h144:b.eval (.tmp 144)=x1:=hR 4 4 144 _ rfl (by kernel_rfl)
          have h149:b.eval (.tmp 149)=x2:=hR 9 9 149 _ rfl (by kernel_rfl)
          simp only [Act.eval,Array.getD_eq_getD_getElem?] at h144 h149
          clear hR hB
          unfold execOp
          simp [go_sem,h144,h149]) (fun w2 hS2=>(HS.out _ HE.out (HR1.out.up (Keep.below hS2.2)) (StmsF.up (Keep.below hS2.2) _ HS1.out) (HR2.out.up (Keep.below hS2.2)) (StmsF.up (Keep.below hS2.2) _ HS2.out)).mono fun e w3 h=>⟨by rw [h.1],hS2.1.trans (h.2.mono hS2.1.size),hS2.2.trans (h.2.mono hS2.2.size)⟩)
        ·exact CalmOp.pure 11 11 (.bool true) rfl rfl rfl rfl (fun b w2 hR hB hS2=>by
          have h150:b.eval (.tmp 150)=.bool true:=hR 10 10 150 _ rfl (by kernel_rfl)
          simp only [Act.eval,Array.getD_eq_getD_getElem?] at h150
          clear hR hB
          unfold execOp
          simp [go_sem,h150])
       simp only [puts,Act.put,List.setIfInBounds_toArray,List.set_cons_zero,List.set_cons_succ]
       have HK2:=Lib.hid (HK.out.trans (hS9.2.mono HK.out.size))
       go_wp2
       refine ⟨⟨k + 1,by simp,by omega,HK2⟩,?_⟩
       simp [intOf]
       omega
      ·have hk3:k=M:=by omega
       subst hk3
       go_wp2
       refine ⟨⟨i + 1,by simp,by omega,HW⟩,?_⟩
       simp [intOf]
       omega
  ·have hi3:i=N:=by omega
   subst hi3
   go_wp2
   go_ret
   exact ⟨rfl,HB.out⟩
mutual
theorem sameB:∀ s,SameB s
 | .mk _ _ _ _ _ _ _ _ _ _ _ _ _ op bo=>⟨sameStmtsFn (sameLs bo),sameOs op⟩
theorem sameLs:∀ (l:List Stm),∀ s ∈ l,SameB s
 | []=>fun a h=>by cases h
 | x :: l=>List.forall_mem_cons.2 ⟨sameB x,sameLs l⟩
theorem sameOs:∀ (l:List (List Stm)),∀ s ∈ l,SameL s
 | []=>fun a h=>by cases h
 | x :: l=>List.forall_mem_cons.2 ⟨sameStmtsFn (sameLs x),sameOs l⟩
end
end Go.Proofs.YtpoghableadkcaaGreatDoor
