/- The walk of choice (printed by mkexp4.py). -/
import Derived.Test.YtpoghableadkcaaGreatDoorM10
import Derived.RegionDies
namespace Go.Proofs.YtpoghableadkcaaGreatDoor
open Go.RowKit
set_option linter.unusedVariables false
set_option linter.unusedSimpArgs false

set_option maxHeartbeats 4000000 in
set_option maxRecDepth 100000 in
theorem choiceFn {E:Env} {f:Nat} (ih:ExprOk E f) {w:World} {p i:Nat} {P:Nat→Prop} {vl v0:Value} {x:Ast} (hP:Par w p vl E i) (hv0:AstV P w v0 x) (hnp:¬ P p) (hne:choice E (f + 1) x i ≠ .out):
  Calls Tryz.prog 143 #[.pointer (some ⟨p,0,none⟩),v0] w (Out p vl E w (AstV (Or2 P w)) (choice E (f + 1) x i)):=by
 obtain ⟨vn,vi,vh,vk,va,rfl,hv⟩:=hv0
 obtain ⟨z1,y1,x1,z2,y2,x2,z3,y3,x3,z4,y4,x4,z5,y5,x5,rfl,rfl,rfl,rfl,rfl⟩:=hv.forms
 unfold Ast.val
 have hp1:=hP.lt
 have hfew:=hP.few
 have hba:Below w.heap.size w (w.alloc (.cells #[.int .i64 (x.kind:Int),.int .i64 x.n,.string ⟨x.name.toArray⟩,.string ⟨x.label.toArray⟩,.slice z1 y1 x1,.slice z2 y2 x2,.slice z3 y3 x3,.slice z4 y4 x4,.slice z5 y5 x5] 41)):=(Below.refl _ _).alloc (Nat.le_refl _) _
 have hbb:Below (w.alloc (.cells #[.int .i64 (x.kind:Int),.int .i64 x.n,.string ⟨x.name.toArray⟩,.string ⟨x.label.toArray⟩,.slice z1 y1 x1,.slice z2 y2 x2,.slice z3 y3 x3,.slice z4 y4 x4,.slice z5 y5 x5] 41)).heap.size (w.alloc (.cells #[.int .i64 (x.kind:Int),.int .i64 x.n,.string ⟨x.name.toArray⟩,.string ⟨x.label.toArray⟩,.slice z1 y1 x1,.slice z2 y2 x2,.slice z3 y3 x3,.slice z4 y4 x4,.slice z5 y5 x5] 41)) ((w.alloc (.cells #[.int .i64 (x.kind:Int),.int .i64 x.n,.string ⟨x.name.toArray⟩,.string ⟨x.label.toArray⟩,.slice z1 y1 x1,.slice z2 y2 x2,.slice z3 y3 x3,.slice z4 y4 x4,.slice z5 y5 x5] 41)).alloc (.cells #[.int .i64 0,.int .i64 0,.string ⟨#[]⟩,.string ⟨#[]⟩,.slice none 0 0,.slice none 0 0,.slice none 0 0,.slice none 0 0,.slice none 0 0] 41)):=(Below.refl _ _).alloc (Nat.le_refl _) _
 have hb0:Below w.heap.size w ((w.alloc (.cells #[.int .i64 (x.kind:Int),.int .i64 x.n,.string ⟨x.name.toArray⟩,.string ⟨x.label.toArray⟩,.slice z1 y1 x1,.slice z2 y2 x2,.slice z3 y3 x3,.slice z4 y4 x4,.slice z5 y5 x5] 41)).alloc (.cells #[.int .i64 0,.int .i64 0,.string ⟨#[]⟩,.string ⟨#[]⟩,.slice none 0 0,.slice none 0 0,.slice none 0 0,.slice none 0 0,.slice none 0 0] 41)):=hba.trans (hbb.mono hba.size)
 have HP0:=Lib.hid (hP.belowAll hb0)
 have hB:=Holds.new (w.alloc (.cells #[.int .i64 (x.kind:Int),.int .i64 x.n,.string ⟨x.name.toArray⟩,.string ⟨x.label.toArray⟩,.slice z1 y1 x1,.slice z2 y2 x2,.slice z3 y3 x3,.slice z4 y4 x4,.slice z5 y5 x5] 41)) 41 #[.int .i64 0,.int .i64 0,.string ⟨#[]⟩,.string ⟨#[]⟩,.slice none 0 0,.slice none 0 0,.slice none 0 0,.slice none 0 0,.slice none 0 0]
 rw [show (w.alloc (.cells #[.int .i64 (x.kind:Int),.int .i64 x.n,.string ⟨x.name.toArray⟩,.string ⟨x.label.toArray⟩,.slice z1 y1 x1,.slice z2 y2 x2,.slice z3 y3 x3,.slice z4 y4 x4,.slice z5 y5 x5] 41)).heap.size=w.heap.size + 1 by simp] at hB
 have HB0:=Lib.hid hB
 have HA0:=Lib.hid ((Holds.new w 41 #[.int .i64 (x.kind:Int),.int .i64 x.n,.string ⟨x.name.toArray⟩,.string ⟨x.label.toArray⟩,.slice z1 y1 x1,.slice z2 y2 x2,.slice z3 y3 x3,.slice z4 y4 x4,.slice z5 y5 x5]).belowAll hbb)
 have HF0:=Lib.hid (Fp.of_below (p:=p) hb0)
 have HV0:=Lib.hid ((hv.mono Wide.in_).up (Keep.below hb0))
 obtain ⟨Rr,hRr⟩:∃ Rr,choice E (f + 1) x i=Rr:=⟨_,rfl⟩
 rw [hRr] at hne ⊢
 have HNE:=Lib.hid hne
 rw [choice] at hRr
 clear hP hba hbb hb0 hne hB hv
 go_enter Tryz.func143,Tryz.ntmps143
 have HC':=ih.expr (lvl:=0) HP0.out (by omega) (fun h=>by rw [h] at hRr;exact HNE.out hRr.symm)
 cases h1:expr E f 0 i with
 | out=>exact absurd h1 (fun h=>by rw [h] at hRr;exact HNE.out hRr.symm)
 | bad c a=>
  rw [h1] at HC' hRr
  have HC:=Lib.hid HC'
  have HR:=Lib.hid hRr
  clear h1 HC' hRr 
  go_wp2_with (fail)
  refine (HC.out).mono ?_
  rintro e wz ⟨rfl,hF⟩
  rw [← HR.out]
  exact ⟨rfl,rfl,HF0.out.trans hF⟩
 | ok y j=>
  rw [h1] at HC' hRr
  have HC:=Lib.hid HC'
  have HR:=Lib.hid hRr
  clear h1 HC' hRr 
  go_wp2_with (fail)
  refine (HC.out).mono ?_
  rintro e w1 ⟨v,rfl,⟨un,ui,uh,uk,ua,rfl,hu⟩,hPq,hFq⟩
  obtain ⟨u1,t1,s1,u2,t2,s2,u3,t3,s3,u4,t4,s4,u5,t5,s5,rfl,rfl,rfl,rfl,rfl⟩:=hu.forms
  have hRr:=HR.out
  try simp only [R.bd] at hRr
  have hsz0:((w.alloc (.cells #[.int .i64 (x.kind:Int),.int .i64 x.n,.string ⟨x.name.toArray⟩,.string ⟨x.label.toArray⟩,.slice z1 y1 x1,.slice z2 y2 x2,.slice z3 y3 x3,.slice z4 y4 x4,.slice z5 y5 x5] 41)).alloc (.cells #[.int .i64 0,.int .i64 0,.string ⟨#[]⟩,.string ⟨#[]⟩,.slice none 0 0,.slice none 0 0,.slice none 0 0,.slice none 0 0,.slice none 0 0] 41)).heap.size=w.heap.size + 2:=by simp
  rw [hsz0] at hu
  have hw1:w.heap.size + 2 ≤ w1.heap.size:=by have:=hFq.size;omega
  have hba:Below w1.heap.size w1 (w1.alloc (.cells #[.int .i64 (y.kind:Int),.int .i64 y.n,.string ⟨y.name.toArray⟩,.string ⟨y.label.toArray⟩,.slice u1 t1 s1,.slice u2 t2 s2,.slice u3 t3 s3,.slice u4 t4 s4,.slice u5 t5 s5] 41)):=(Below.refl _ _).alloc (Nat.le_refl _) _
  have HPa:=Lib.hid (hPq.belowAll hba)
  have HBa:=Lib.hid ((HB0.out.fp hFq (by omega)).belowAll hba)
  have HAa:=Lib.hid ((HA0.out.fp hFq (by omega)).belowAll hba)
  have HYa:=Lib.hid (Holds.new w1 41 #[.int .i64 (y.kind:Int),.int .i64 y.n,.string ⟨y.name.toArray⟩,.string ⟨y.label.toArray⟩,.slice u1 t1 s1,.slice u2 t2 s2,.slice u3 t3 s3,.slice u4 t4 s4,.slice u5 t5 s5])
  have HVa:=Lib.hid ((HV0.out.up (Keep.of_fp hFq (fun h=>hnp h.1))).up (Keep.below hba))
  have HUa:=Lib.hid (hu.up (Keep.below hba))
  have HFa:=Lib.hid ((HF0.out.trans hFq).bel hba)
  unfold Ast.val
  clear hu hPq hFq hba HR HC hsz0 HP0 HB0 HA0 HV0 HF0
  have HC':=needFn HPa.out [58]
  cases h1:need E [58] j with
  | out=>exact absurd h1 need_ne
  | bad c a=>
   rw [h1] at HC' hRr
   have HC:=Lib.hid HC'
   have HR:=Lib.hid hRr
   clear h1 HC' hRr 
   go_wp2_with (fail)
   refine (HC.out).mono ?_
   rintro e wz ⟨rfl,hF⟩
   rw [← HR.out]
   exact ⟨rfl,rfl,HFa.out.trans hF⟩
  | ok u m=>
   rw [h1] at HC' hRr
   have HC:=Lib.hid HC'
   have HR:=Lib.hid hRr
   clear h1 HC' hRr 
   go_wp2_with (fail)
   refine (HC.out).mono ?_
   rintro e w2 ⟨v5,rfl,hv5,hPq,hFq⟩
   obtain rfl:=hv5
   have hRr:=HR.out
   try simp only [R.bd] at hRr
   have HP2:=Lib.hid hPq
   have HB2:=Lib.hid (HBa.out.fp hFq (by omega))
   have HA2:=Lib.hid (HAa.out.fp hFq (by omega))
   have HY2:=Lib.hid (HYa.out.fp hFq (by omega))
   have HV2:=Lib.hid (HVa.out.up (Keep.of_fp hFq (fun h=>hnp h.1)))
   have HU2:=Lib.hid (HUa.out.up (Keep.of_fp hFq (by show ¬ _;omega)))
   have HF2:=Lib.hid (HFa.out.trans hFq)
   clear hPq hFq HR HC HPa HBa HAa HYa HVa HUa HFa
   have hxn:expr E f 0 m ≠ .out:=fun h=>by rw [h] at hRr;exact HNE.out hRr.symm
   have hC':=ih.expr (lvl:=0) HP2.out.drew (by omega) hxn
   obtain ⟨a0,a1,a2,a3,a4,a5,a6,a7,a8⟩:=HA2.out.cells9
   obtain ⟨b0,b1,b2,b3,b4,b5,b6,b7,b8⟩:=HY2.out.cells9
   cases h1:expr E f 0 m with
   | out=>exact absurd h1 hxn
   | bad c a=>
    rw [h1] at hC' hRr
    have HC:=Lib.hid hC'
    have HR:=Lib.hid hRr
    clear h1 hC' hRr hxn ih
    go_wp2
    go_region_dies
    all_goals (
     refine (HC.out).mono ?_
     rintro e wz ⟨rfl,hF⟩
     rw [← HR.out]
     exact ⟨rfl,rfl,Fp.trans HF2.out.drew hF⟩)
   | ok z k=>
    rw [h1] at hC' hRr
    have HC:=Lib.hid hC'
    have HR:=Lib.hid hRr
    clear h1 hC' hRr hxn ih
    go_wp2
    have hl:∀ w',F2 p (w.heap.size + 1) w2 w'→Holds w' w.heap.size 41 [.int .i64 (x.kind:Int),.int .i64 x.n,.string ⟨x.name.toArray⟩,.string ⟨x.label.toArray⟩,.slice z1 y1 x1,.slice z2 y2 x2,.slice z3 y3 x3,.slice z4 y4 x4,.slice z5 y5 x5]∧Holds w' w1.heap.size 41 [.int .i64 (y.kind:Int),.int .i64 y.n,.string ⟨y.name.toArray⟩,.string ⟨y.label.toArray⟩,.slice u1 t1 s1,.slice u2 t2 s2,.slice u3 t3 s3,.slice u4 t4 s4,.slice u5 t5 s5]:=fun w' h=>⟨h.holds HA2.out (by omega) (by omega),h.holds HY2.out (by omega) (by omega)⟩
    have l10:∀ w',F2 p (w.heap.size + 1) w2 w'→w'.cell? ⟨w.heap.size,0,none⟩=some (.int .i64 (x.kind:Int)):=fun w' h=>(hl w' h).1.cell 0
    have l11:∀ w',F2 p (w.heap.size + 1) w2 w'→w'.cell? ⟨w.heap.size,1,none⟩=some (.int .i64 x.n):=fun w' h=>(hl w' h).1.cell 1
    have l12:∀ w',F2 p (w.heap.size + 1) w2 w'→w'.cell? ⟨w.heap.size,2,none⟩=some (.string ⟨x.name.toArray⟩):=fun w' h=>(hl w' h).1.cell 2
    have l13:∀ w',F2 p (w.heap.size + 1) w2 w'→w'.cell? ⟨w.heap.size,3,none⟩=some (.string ⟨x.label.toArray⟩):=fun w' h=>(hl w' h).1.cell 3
    have l14:∀ w',F2 p (w.heap.size + 1) w2 w'→w'.cell? ⟨w.heap.size,4,none⟩=some (.slice z1 y1 x1):=fun w' h=>(hl w' h).1.cell 4
    have l15:∀ w',F2 p (w.heap.size + 1) w2 w'→w'.cell? ⟨w.heap.size,5,none⟩=some (.slice z2 y2 x2):=fun w' h=>(hl w' h).1.cell 5
    have l16:∀ w',F2 p (w.heap.size + 1) w2 w'→w'.cell? ⟨w.heap.size,6,none⟩=some (.slice z3 y3 x3):=fun w' h=>(hl w' h).1.cell 6
    have l17:∀ w',F2 p (w.heap.size + 1) w2 w'→w'.cell? ⟨w.heap.size,7,none⟩=some (.slice z4 y4 x4):=fun w' h=>(hl w' h).1.cell 7
    have l18:∀ w',F2 p (w.heap.size + 1) w2 w'→w'.cell? ⟨w.heap.size,8,none⟩=some (.slice z5 y5 x5):=fun w' h=>(hl w' h).1.cell 8
    have l20:∀ w',F2 p (w.heap.size + 1) w2 w'→w'.cell? ⟨w1.heap.size,0,none⟩=some (.int .i64 (y.kind:Int)):=fun w' h=>(hl w' h).2.cell 0
    have l21:∀ w',F2 p (w.heap.size + 1) w2 w'→w'.cell? ⟨w1.heap.size,1,none⟩=some (.int .i64 y.n):=fun w' h=>(hl w' h).2.cell 1
    have l22:∀ w',F2 p (w.heap.size + 1) w2 w'→w'.cell? ⟨w1.heap.size,2,none⟩=some (.string ⟨y.name.toArray⟩):=fun w' h=>(hl w' h).2.cell 2
    have l23:∀ w',F2 p (w.heap.size + 1) w2 w'→w'.cell? ⟨w1.heap.size,3,none⟩=some (.string ⟨y.label.toArray⟩):=fun w' h=>(hl w' h).2.cell 3
    have l24:∀ w',F2 p (w.heap.size + 1) w2 w'→w'.cell? ⟨w1.heap.size,4,none⟩=some (.slice u1 t1 s1):=fun w' h=>(hl w' h).2.cell 4
    have l25:∀ w',F2 p (w.heap.size + 1) w2 w'→w'.cell? ⟨w1.heap.size,5,none⟩=some (.slice u2 t2 s2):=fun w' h=>(hl w' h).2.cell 5
    have l26:∀ w',F2 p (w.heap.size + 1) w2 w'→w'.cell? ⟨w1.heap.size,6,none⟩=some (.slice u3 t3 s3):=fun w' h=>(hl w' h).2.cell 6
    have l27:∀ w',F2 p (w.heap.size + 1) w2 w'→w'.cell? ⟨w1.heap.size,7,none⟩=some (.slice u4 t4 s4):=fun w' h=>(hl w' h).2.cell 7
    have l28:∀ w',F2 p (w.heap.size + 1) w2 w'→w'.cell? ⟨w1.heap.size,8,none⟩=some (.slice u5 t5 s5):=fun w' h=>(hl w' h).2.cell 8
    have HS0:Hid (F2 p (w.heap.size + 1) w2 w2):=F2.rfl_
    clear hl
    go_region_held3 (fun w':World=>F2 p (w.heap.size + 1) w2 w') (repeat' first | (with_reducible exact HS0.out) | (with_reducible exact hS6.out) | with_reducible apply F2.drew | with_reducible apply F2.alloc | with_reducible apply F2.setb) (first | (go_at_call 29;refine (HC.out).mono ?_;rintro e w6 ⟨v6,rfl,⟨n1,n2,n3,n4,n5,rfl,hv6⟩,hP6,hF6⟩;obtain ⟨q1,r1,o1,q2,r2,o2,q3,r3,o3,q4,r4,o4,q5,r5,o5,rfl,rfl,rfl,rfl,rfl⟩:=hv6.forms;have HV6:=Lib.hid hv6;have HP6:=Lib.hid hP6;have HF6:=Lib.hid (Fp.trans (Fp.refl p w2).drew hF6);have hS6:=Lib.hid (F2.of_fp (b:=w.heap.size + 1) HF6.out);have hB6:=(HB2.out.fp HF6.out (by omega)).alloc (.cells #[.int .i64 (x.kind:Int),.int .i64 x.n,.string ⟨x.name.toArray⟩,.string ⟨x.label.toArray⟩,.slice z1 y1 x1,.slice z2 y2 x2,.slice z3 y3 x3,.slice z4 y4 x4,.slice z5 y5 x5,.int .i64 (y.kind:Int),.int .i64 y.n,.string ⟨y.name.toArray⟩,.string ⟨y.label.toArray⟩,.slice u1 t1 s1,.slice u2 t2 s2,.slice u3 t3 s3,.slice u4 t4 s4,.slice u5 t5 s5,.int .i64 (z.kind:Int),.int .i64 z.n,.string ⟨z.name.toArray⟩,.string ⟨z.label.toArray⟩,.slice q1 r1 o1,.slice q2 r2 o2,.slice q3 r3 o3,.slice q4 r4 o4,.slice q5 r5 o5] 41);obtain ⟨d0,d1,d2,d3,d4,d5,d6,d7,d8⟩:=hB6.cells9;obtain ⟨g0,g1,g2,g3,g4,g5,g6,g7,g8⟩:=hB6.free9;have HB6:=Lib.hid hB6;unfold Ast.val;clear hv6 hP6 hF6 hB6))
    have hw6:w2.heap.size ≤ w6.heap.size:=HF6.out.size
    have hw2:w1.heap.size < w2.heap.size:=HY2.out.lt
    obtain ⟨W7,hW7⟩:∃ W7,W7=w6.alloc (.cells #[.int .i64 (x.kind:Int),.int .i64 x.n,.string ⟨x.name.toArray⟩,.string ⟨x.label.toArray⟩,.slice z1 y1 x1,.slice z2 y2 x2,.slice z3 y3 x3,.slice z4 y4 x4,.slice z5 y5 x5,.int .i64 (y.kind:Int),.int .i64 y.n,.string ⟨y.name.toArray⟩,.string ⟨y.label.toArray⟩,.slice u1 t1 s1,.slice u2 t2 s2,.slice u3 t3 s3,.slice u4 t4 s4,.slice u5 t5 s5,.int .i64 (z.kind:Int),.int .i64 z.n,.string ⟨z.name.toArray⟩,.string ⟨z.label.toArray⟩,.slice q1 r1 o1,.slice q2 r2 o2,.slice q3 r3 o3,.slice q4 r4 o4,.slice q5 r5 o5] 41):=⟨_,rfl⟩
    have hb7:Below w6.heap.size w6 W7:=by rw [hW7];exact (Below.refl _ _).alloc (Nat.le_refl _) _
    have hK:Holds W7 w6.heap.size 41 [.int .i64 (x.kind:Int),.int .i64 x.n,.string ⟨x.name.toArray⟩,.string ⟨x.label.toArray⟩,.slice z1 y1 x1,.slice z2 y2 x2,.slice z3 y3 x3,.slice z4 y4 x4,.slice z5 y5 x5,.int .i64 (y.kind:Int),.int .i64 y.n,.string ⟨y.name.toArray⟩,.string ⟨y.label.toArray⟩,.slice u1 t1 s1,.slice u2 t2 s2,.slice u3 t3 s3,.slice u4 t4 s4,.slice u5 t5 s5,.int .i64 (z.kind:Int),.int .i64 z.n,.string ⟨z.name.toArray⟩,.string ⟨z.label.toArray⟩,.slice q1 r1 o1,.slice q2 r2 o2,.slice q3 r3 o3,.slice q4 r4 o4,.slice q5 r5 o5]:=by rw [hW7];exact Holds.new w6 _ _
    have hx:=((HV2.out.up (Keep.of_fp HF6.out (fun h=>hnp h.1))).mono (Q:=fun k=>(P k∨w.heap.size ≤ k)∧k ≠ w.heap.size + 1) (fun k hk _=>⟨.inl hk.1,by have:=hk.2;omega⟩)).up (Keep.below hb7)
    have hy:=((HU2.out.up (Keep.of_fp HF6.out (by show ¬ _;omega))).mono (Q:=fun k=>(P k∨w.heap.size ≤ k)∧k ≠ w.heap.size + 1) (fun k hk _=>by have hk':w.heap.size + 2 ≤ k:=hk;exact ⟨.inr (by omega),by omega⟩)).up (Keep.below hb7)
    have hz:=(HV6.out.mono (Q:=fun k=>(P k∨w.heap.size ≤ k)∧k ≠ w.heap.size + 1) (fun k hk _=>by have hk':w2.heap.size ≤ k:=hk;exact ⟨.inr (by omega),by omega⟩)).up (Keep.below hb7)
    have HKV:=Lib.hid (AstF.kids (k:=5) (n:=0) (s:=[]) (t:=[]) ⟨_,RowL.of_holds (size:=9) hK (show (P w6.heap.size∨w.heap.size ≤ w6.heap.size)∧w6.heap.size ≠ w.heap.size + 1 from ⟨.inr (by omega),by omega⟩) (by simp) rfl,AstsF.three hx hy hz⟩)
    have HP7:=Lib.hid (HP6.out.belowAll hb7)
    have HF7:=Lib.hid ((HF2.out.trans HF6.out).bel hb7)
    rw [← hW7] at HB6
    clear hx hy hz hK hb7
    go_wp2
    rw [← hW7]
    exact ast_endQ Tryz.results143 rfl rfl HB6.out HKV.out (fun h=>h.2 rfl) (fun k hk=>hk.1) (by omega) hp1 HP7.out HF7.out HR.out.symm rfl rfl rfl rfl
end Go.Proofs.YtpoghableadkcaaGreatDoor
