/- The walk of SyntaxLevels. -/
import Derived.Test.YtpoghableadkcaaGreatDoorLvg
import Derived.Test.YtpoghableadkcaaGreatDoorM23
import Derived.Test.YtpoghableadkcaaGreatDoorM21
import Derived.Deep.DeepCutAuto
namespace Go.Proofs.YtpoghableadkcaaGreatDoor
open Go.RowKit
set_option linter.unusedVariables false
set_option linter.unusedSimpArgs false

theorem lv1_eq (i k:Nat):(⟨#[120,32]⟩ ++ ⟨(op_ i).toArray⟩ ++ ⟨#[32,121,32]⟩ ++ ⟨(op_ k).toArray⟩ ++ ⟨#[32,122]⟩:ByteArray)=lv1 i k:=by
 apply ByteArray.ext
 apply Array.ext'
 simp [lv1,ByteArray.data_append]
theorem lv2_eq (i k:Nat):(⟨#[40,120,32]⟩ ++ ⟨(op_ i).toArray⟩ ++ ⟨#[32,121,41,32]⟩ ++ ⟨(op_ k).toArray⟩ ++ ⟨#[32,122]⟩:ByteArray)=lv2 i k:=by
 apply ByteArray.ext
 apply Array.ext'
 simp [lv2,ByteArray.data_append]
theorem lv3_eq (i k:Nat):(⟨#[120,32]⟩ ++ ⟨(op_ i).toArray⟩ ++ ⟨#[32,40,121,32]⟩ ++ ⟨(op_ k).toArray⟩ ++ ⟨#[32,122,41]⟩:ByteArray)=lv3 i k:=by
 apply ByteArray.ext
 apply Array.ext'
 simp [lv3,ByteArray.data_append]
theorem op_len (i:Nat):(op_ i).length ≤ 2:=by
 unfold op_
 rcases Nat.lt_or_ge i 18 with h | h
 ·have h2:i < lvOps.length:=h
  have:∀ l ∈ lvOps,l.length ≤ 2:=by decide
  rw [List.getD_eq_getElem?_getD,List.getElem?_eq_getElem h2]
  exact this _ (List.getElem_mem h2)
 ·rw [List.getD_eq_getElem?_getD,List.getElem?_eq_none h]
  simp
theorem puts_as {ps qs:Puts} {a:Act} {w:World} {Q:Exit→Act→World→Prop} (h:qs=ps) (k:Q .normal (puts ps a) w):Q .normal (puts qs a) w:=h ▸ k
set_option maxHeartbeats 1600000 in
set_option maxRecDepth 1000000 in
theorem lawLevels (x y:Int) (hx:-9223372036854775808 ≤ x∧x ≤ 9223372036854775807) (hy:-9223372036854775808 ≤ y∧y ≤ 9223372036854775807) {w:World} (hw:Wd w):Calls Tryz.prog 5 #[.int .i64 x,.int .i64 y] w fun e w'=>e=.returned (.bool true)∧Below w.heap.size w w':=by
 have HW:=Lib.hid hw
 have HC:=Lib.hid (awakeFn hw)
 clear hw
 go_enter Tryz.func5,Tryz.ntmps5
 go_wp2_with (fail)
 refine HC.out.mono ?_
 rintro e w1 ⟨rfl,hB1⟩
 have HB1:=Lib.hid hB1
 clear hB1 HC
 go_upto_region 6 with (fail)
 obtain ⟨w2,hw2⟩:∃ W,W=(w1.alloc (.cells #[.string ⟨#[124,124]⟩,.string ⟨#[38,38]⟩,.string ⟨#[124]⟩,.string ⟨#[94]⟩,.string ⟨#[38]⟩,.string ⟨#[61,61]⟩,.string ⟨#[33,61]⟩,.string ⟨#[60]⟩,.string ⟨#[60,61]⟩,.string ⟨#[62]⟩,.string ⟨#[62,61]⟩,.string ⟨#[60,60]⟩,.string ⟨#[62,62]⟩,.string ⟨#[43]⟩,.string ⟨#[45]⟩,.string ⟨#[42]⟩,.string ⟨#[47]⟩,.string ⟨#[37]⟩] 9)).alloc (.cells #[.int .i64 1,.int .i64 2,.int .i64 3,.int .i64 4,.int .i64 5,.int .i64 6,.int .i64 6,.int .i64 7,.int .i64 7,.int .i64 7,.int .i64 7,.int .i64 8,.int .i64 8,.int .i64 9,.int .i64 9,.int .i64 10,.int .i64 10,.int .i64 10] 3):=⟨_,rfl⟩
 have hA:Holds w2 w1.heap.size 9 (lvOps.map strV):=by rw [hw2];exact (Holds.new w1 9 (lvOps.map strV).toArray).alloc _
 have hL:Holds w2 (w1.heap.size + 1) 3 (lvL.map fun n:Nat=>Value.int .i64 (n:Int)):=by
  rw [hw2]
  have:=Holds.new (w1.alloc (.cells #[.string ⟨#[124,124]⟩,.string ⟨#[38,38]⟩,.string ⟨#[124]⟩,.string ⟨#[94]⟩,.string ⟨#[38]⟩,.string ⟨#[61,61]⟩,.string ⟨#[33,61]⟩,.string ⟨#[60]⟩,.string ⟨#[60,61]⟩,.string ⟨#[62]⟩,.string ⟨#[62,61]⟩,.string ⟨#[60,60]⟩,.string ⟨#[62,62]⟩,.string ⟨#[43]⟩,.string ⟨#[45]⟩,.string ⟨#[42]⟩,.string ⟨#[47]⟩,.string ⟨#[37]⟩] 9)) 3 (lvL.map fun n:Nat=>Value.int .i64 (n:Int)).toArray
  rw [show (w1.alloc (.cells #[.string ⟨#[124,124]⟩,.string ⟨#[38,38]⟩,.string ⟨#[124]⟩,.string ⟨#[94]⟩,.string ⟨#[38]⟩,.string ⟨#[61,61]⟩,.string ⟨#[33,61]⟩,.string ⟨#[60]⟩,.string ⟨#[60,61]⟩,.string ⟨#[62]⟩,.string ⟨#[62,61]⟩,.string ⟨#[60,60]⟩,.string ⟨#[62,62]⟩,.string ⟨#[43]⟩,.string ⟨#[45]⟩,.string ⟨#[42]⟩,.string ⟨#[47]⟩,.string ⟨#[37]⟩] 9)).heap.size=w1.heap.size + 1 by simp] at this
  exact this
 have hb2:Below w.heap.size w w2:=by rw [hw2];exact (HB1.out.alloc HB1.out.size _).alloc (by have:=HB1.out.size;simp;omega) _
 have HA:=Lib.hid hA
 have HL:=Lib.hid hL
 have HB2:=Lib.hid hb2
 rw [← hw2]
 clear hw2 hA hL hb2 HB1
 go_upto_if 22 with (fail)
 go_cut [0] (fun s0 wx=>∃ A:Nat,s0=.int .i64 (A:Int)∧A < 9223372036854775808∧wx=w2)
 case first=>
  by_cases h0:x < 0
  ·have d0:decide (x < 0)=true:=decide_eq_true h0
   have e1:IntKind.i64.wrap (x + 1)=x + 1:=by rw [IntKind.wrap_i64];omega
   have e2:IntKind.i64.wrap (-(x + 1))=-(x + 1):=by rw [IntKind.wrap_i64];omega
   go_wp2_with (fail)
   go_meet
   case rel=>exact ⟨(-(x + 1)).toNat,by rw [Int.toNat_of_nonneg (by omega)],by omega,rfl⟩
  ·have d0:decide (x < 0)=false:=decide_eq_false h0
   go_wp2_with (fail)
   go_meet
   case rel=>exact ⟨x.toNat,by rw [Int.toNat_of_nonneg (by omega)],by omega,rfl⟩
 case rest=>
  obtain ⟨A,rfl,hA,rfl⟩:=hcut
  go_upto_if 27 with (fail)
  go_cut [1] (fun s1 wx=>∃ B:Nat,s1=.int .i64 (B:Int)∧B < 9223372036854775808∧wx=wc)
  case first=>
   by_cases h0:y < 0
   ·have d0:decide (y < 0)=true:=decide_eq_true h0
    have e1:IntKind.i64.wrap (y + 1)=y + 1:=by rw [IntKind.wrap_i64];omega
    have e2:IntKind.i64.wrap (-(y + 1))=-(y + 1):=by rw [IntKind.wrap_i64];omega
    go_wp2_with (fail)
    go_meet
    case rel=>exact ⟨(-(y + 1)).toNat,by rw [Int.toNat_of_nonneg (by omega)],by omega,rfl⟩
   ·have d0:decide (y < 0)=false:=decide_eq_false h0
    go_wp2_with (fail)
    go_meet
    case rel=>exact ⟨y.toNat,by rw [Int.toNat_of_nonneg (by omega)],by omega,rfl⟩
  case rest=>
   obtain ⟨B,rfl,hB,rfl⟩:=hcut
   obtain ⟨i,hi⟩:∃ i,A % 18=i:=⟨_,rfl⟩
   obtain ⟨k,hk⟩:∃ k,B % 18=k:=⟨_,rfl⟩
   have hiA:((A:Int) % 18)=(i:Int):=by omega
   have hkB:((B:Int) % 18)=(k:Int):=by omega
   have hi18:i < 18:=by omega
   have hk18:k < 18:=by omega
   clear hi hk
   have hlv:=lv_at hi18 hk18
   go_upto_region 12 with (fail)
   rw [hiA,hkB]
   unfold lvOk at hlv
   obtain ⟨e1,h1⟩:∃ r,exprRes 18 (lv1 i k)=r:=⟨_,rfl⟩
   obtain ⟨e2,h2⟩:∃ r,exprRes 18 (lv2 i k)=r:=⟨_,rfl⟩
   obtain ⟨e3,h3⟩:∃ r,exprRes 18 (lv3 i k)=r:=⟨_,rfl⟩
   rw [h1,h2,h3] at hlv
   match e1,e2,e3,hlv,h1,h2,h3 with
   | .ok e1,.ok e2,.ok e3,hlv,h1,h2,h3=>
   have o1:∀ w',Below wc.heap.size wc w'→w'.cell? ⟨w1.heap.size,i,none⟩=some (.string ⟨(op_ i).toArray⟩):=fun w' hb=>by
    rw [(HA.out.belowAll hb).cell]
    unfold op_
    have:i < lvOps.length:=hi18
    simp [List.getD_eq_getElem?_getD,List.getElem?_eq_getElem this,strV]
   have o2:∀ w',Below wc.heap.size wc w'→w'.cell? ⟨w1.heap.size,k,none⟩=some (.string ⟨(op_ k).toArray⟩):=fun w' hb=>by
    rw [(HA.out.belowAll hb).cell]
    unfold op_
    have:k < lvOps.length:=hk18
    simp [List.getD_eq_getElem?_getD,List.getElem?_eq_getElem this,strV]
   have O1:=Lib.hid o1
   have O2:=Lib.hid o2
   have HE1:=Lib.hid h1
   have HE2:=Lib.hid h2
   have HE3:=Lib.hid h3
   have HLV:=Lib.hid hlv
   clear h1 h2 h3 hlv o1 o2
   refine wp_region_lv (f:=18) (txt:=lv1 i k) (x:=e1) [40,41,42,43,44,45,46,47,48,49,50,51,52,39,53,54,10,11] (fun j=>([.slice (some ⟨w1.heap.size,0,none⟩) 18 18,.int .i64 (i:Int),.pointer (some ⟨w1.heap.size,i,none⟩),.string ⟨(op_ i).toArray⟩,.string (⟨#[120,32]⟩ ++ ⟨(op_ i).toArray⟩),.string (⟨#[120,32]⟩ ++ ⟨(op_ i).toArray⟩ ++ ⟨#[32,121,32]⟩),.slice (some ⟨w1.heap.size,0,none⟩) 18 18,.int .i64 (k:Int),.pointer (some ⟨w1.heap.size,k,none⟩),.string ⟨(op_ k).toArray⟩,.string (⟨#[120,32]⟩ ++ ⟨(op_ i).toArray⟩ ++ ⟨#[32,121,32]⟩ ++ ⟨(op_ k).toArray⟩),.string (⟨#[120,32]⟩ ++ ⟨(op_ i).toArray⟩ ++ ⟨#[32,121,32]⟩ ++ ⟨(op_ k).toArray⟩ ++ ⟨#[32,122]⟩)]:List Value).getD j undef)
    (by kernel_rfl) (by kernel_rfl) rfl rfl (by decide) (fun j d hj=>?_) (HW.out.below HB2.out) (exprFu_of (by rw [HE1.out];simp)) HE1.out (fun j o ho=>?_) (fun j o hj hj2 ho xs b1 b2 L a w3 hI hdep=>?_) (fun o ho xs b1 b2 L a w3 hI hdep=>?_) (fun o ho a w3=>?_) (fun o ho a w3=>?_) (fun o ho xs b1 b2 L a w3 hl hI hdep=>?_) (fun o ho xs b1 b2 L a w3 hI hdep=>?_) (fun xs p0 q0 v0 hb hne hv hb1 hH1 hb2 hH2=>?_)
   ·have h:∀ d ∈ ([40,41,42,43,44,45,46,47,48,49,50,51,52,39,53,54,10,11]:List Nat),d < 121:=by decide
    exact h d (List.mem_of_getElem? hj)
   ·have hj:j < 20:=(Array.getElem?_eq_some_iff.1 ho).1
    have hj2:j=0∨j=1∨j=2∨j=3∨j=4∨j=5∨j=6∨j=7∨j=8∨j=9∨j=10∨j=11∨j=12∨j=13∨j=14∨j=15∨j=16∨j=17∨j=18∨j=19:=by omega
    rcases hj2 with rfl | rfl | rfl | rfl | rfl | rfl | rfl | rfl | rfl | rfl | rfl | rfl | rfl | rfl | rfl | rfl | rfl | rfl | rfl | rfl <;> (injection ho with ho;subst ho;exact ⟨rfl,rfl⟩)
   ·have hj3:j=0∨j=1∨j=2∨j=3∨j=4∨j=5∨j=6∨j=7∨j=8∨j=9∨j=10∨j=11∨j=13∨j=14∨j=15:=by omega
    rcases hj3 with rfl | rfl | rfl | rfl | rfl | rfl | rfl | rfl | rfl | rfl | rfl | rfl | rfl | rfl | rfl
    ·injection ho with ho;subst ho
     have r0:=hI.keep 6 rfl
     simp [lvVal] at r0
     refine ⟨?_,fun h=>by omega⟩
     unfold execOp
     simp [go_sem,lvVal,r0]
    ·injection ho with ho;subst ho
     have r0:=hI.keep 8 rfl
     simp [lvVal] at r0
     refine ⟨?_,fun h=>by omega⟩
     unfold execOp
     simp [go_sem,lvVal,r0]
    ·injection ho with ho;subst ho
     have r0:=hI.slots 0 40 rfl (hdep ⟨0,.data⟩ (by simp) rfl)
     have r1:=hI.slots 1 41 rfl (hdep ⟨1,.data⟩ (by simp) rfl)
     simp [lvVal] at r0 r1
     refine ⟨?_,fun h=>by omega⟩
     unfold execOp
     simp [go_sem,lvVal,r0,r1]
     omega
    ·injection ho with ho;subst ho
     have r0:=hI.slots 2 42 rfl (hdep ⟨2,.data⟩ (by simp) rfl)
     simp [lvVal] at r0
     have c3:=O1.out w3 hI.w.below
     refine ⟨?_,fun h=>by omega⟩
     unfold execOp
     simp [go_sem,lvVal,r0,c3]
    ·injection ho with ho;subst ho
     have r0:=hI.slots 3 43 rfl (hdep ⟨3,.data⟩ (by simp) rfl)
     simp [lvVal] at r0
     refine ⟨?_,fun h=>by omega⟩
     unfold execOp
     simp [go_sem,lvVal,r0]
     have:=op_len i
     have:=op_len k
     omega
    ·injection ho with ho;subst ho
     have r0:=hI.slots 4 44 rfl (hdep ⟨4,.data⟩ (by simp) rfl)
     simp [lvVal] at r0
     refine ⟨?_,fun h=>by omega⟩
     unfold execOp
     simp [go_sem,lvVal,r0]
     have:=op_len i
     have:=op_len k
     omega
    ·injection ho with ho;subst ho
     have r0:=hI.keep 6 rfl
     simp [lvVal] at r0
     refine ⟨?_,fun h=>by omega⟩
     unfold execOp
     simp [go_sem,lvVal,r0]
    ·injection ho with ho;subst ho
     have r0:=hI.keep 9 rfl
     simp [lvVal] at r0
     refine ⟨?_,fun h=>by omega⟩
     unfold execOp
     simp [go_sem,lvVal,r0]
    ·injection ho with ho;subst ho
     have r0:=hI.slots 6 46 rfl (hdep ⟨6,.data⟩ (by simp) rfl)
     have r1:=hI.slots 7 47 rfl (hdep ⟨7,.data⟩ (by simp) rfl)
     simp [lvVal] at r0 r1
     refine ⟨?_,fun h=>by omega⟩
     unfold execOp
     simp [go_sem,lvVal,r0,r1]
     omega
    ·injection ho with ho;subst ho
     have r0:=hI.slots 8 48 rfl (hdep ⟨8,.data⟩ (by simp) rfl)
     simp [lvVal] at r0
     have c3:=O2.out w3 hI.w.below
     refine ⟨?_,fun h=>by omega⟩
     unfold execOp
     simp [go_sem,lvVal,r0,c3]
    ·injection ho with ho;subst ho
     have r0:=hI.slots 5 45 rfl (hdep ⟨5,.data⟩ (by simp) rfl)
     have r1:=hI.slots 9 49 rfl (hdep ⟨9,.data⟩ (by simp) rfl)
     simp [lvVal] at r0 r1
     refine ⟨?_,fun h=>by omega⟩
     unfold execOp
     simp [go_sem,lvVal,r0,r1]
     have:=op_len i
     have:=op_len k
     omega
    ·injection ho with ho;subst ho
     have r0:=hI.slots 10 50 rfl (hdep ⟨10,.data⟩ (by simp) rfl)
     simp [lvVal] at r0
     refine ⟨?_,fun h=>by omega⟩
     unfold execOp
     simp [go_sem,lvVal,r0]
     have:=op_len i
     have:=op_len k
     omega
    ·injection ho with ho;subst ho
     have r0:=hI.slots 12 52 rfl (hdep ⟨12,.data⟩ (by simp) rfl)
     simp [lvVal] at r0
     refine ⟨?_,fun h=>(hdep ⟨12,.data⟩ (by simp) rfl)⟩
     unfold execOp
     simp [go_sem,lvVal,r0]
    ·injection ho with ho;subst ho
     have r0:=hI.slots 13 39 rfl (hdep ⟨13,.data⟩ (by simp) rfl)
     simp [lvVal] at r0
     refine ⟨?_,fun h=>by
      cases h12:L.getD 12 false with
      | true=>rfl
      | false=>have:=(hI.w.wait h12).1;rw [hdep ⟨13,.data⟩ (by simp) rfl] at this;cases this⟩
     unfold execOp
     simp [go_sem,lvVal,r0]
    ·injection ho with ho;subst ho
     have r0:=hI.slots 13 39 rfl (hdep ⟨13,.data⟩ (by simp) rfl)
     simp [lvVal] at r0
     refine ⟨?_,fun h=>by
      cases h12:L.getD 12 false with
      | true=>rfl
      | false=>have:=(hI.w.wait h12).1;rw [hdep ⟨13,.data⟩ (by simp) rfl] at this;cases this⟩
     unfold execOp
     simp [go_sem,lvVal,r0]
   ·injection ho with ho;subst ho
    have r0:=hI.slots 11 51 rfl (hdep ⟨11,.data⟩ (by simp) rfl)
    simp [lvVal] at r0
    rw [← lv1_eq]
    unfold execOp
    simp [go_sem,r0]
   ·injection ho with ho;subst ho
    unfold execOp
    simp [go_sem,zeroA]
   ·injection ho with ho;subst ho
    unfold execOp
    simp [go_sem]
   ·injection ho with ho;subst ho
    have l16:L.getD 16 false=true:=hdep ⟨16,.data⟩ (by simp) rfl
    have l14:L.getD 14 false=true:=hdep ⟨14,.data⟩ (by simp) rfl
    have l12:L.getD 12 false=true:=by
     cases h12:L.getD 12 false with
     | true=>rfl
     | false=>have:=(hI.w.wait h12).2.1;rw [l14] at this;cases this
    have r0:=hI.slots 16 10 rfl l16
    have r1:=hI.slots 14 53 rfl l14
    simp [lvVal] at r0 r1
    have hb:=(hI.w.box1 l16).2
    rw [ite_f hl] at hb
    have hlen:=oneAst.len (hI.w.told l12)
    have hone:=oneAst.one (hI.w.told l12)
    refine ⟨l12,l16,?_⟩
    have hst:=storeN (P:=Tryz.prog) (ty:=41) (i:=0) (xs:=xs) hb (by rw [hlen];exact Nat.le_refl _) (by rw [hlen];exact sz_Ast) hone
    unfold execOp
    simp [Act.eval,r0,r1,Sem.run_bind,hst]
   ·injection ho with ho;subst ho
    have l17:L.getD 17 false=true:=hdep ⟨17,.data⟩ (by simp) rfl
    have l15:L.getD 15 false=true:=hdep ⟨15,.data⟩ (by simp) rfl
    have r0:=hI.slots 17 11 rfl l17
    have r1:=hI.slots 15 54 rfl l15
    simp [lvVal,mish] at r0 r1
    have hb:=(hI.w.box2 l17).2
    refine ⟨l17,?_⟩
    have hst:=storeN (P:=Tryz.prog) (ty:=26) (i:=0) (xs:=[.int .i64 0,.int .i64 0]) hb (by simp) sz_Mis (by simp [Value.oneCell'])
    unfold execOp
    simp [Act.eval,r0,r1,Sem.run_bind,hst]
   ·obtain ⟨vn,vi,vh,vk,va,rfl,hv⟩:=hv
    obtain ⟨z0a1,z0n1,z0c1,z0a2,z0n2,z0c2,z0a3,z0n3,z0c3,z0a4,z0n4,z0c4,z0a5,z0n5,z0c5,rfl,rfl,rfl,rfl,rfl⟩:=hv.forms
    unfold Ast.cells at *
    have HV0:Hid (AstG (fun _=>True) v0 e1 [.int .i64 (e1.kind:Int),.int .i64 e1.n,.string ⟨e1.name.toArray⟩,.string ⟨e1.label.toArray⟩,.slice z0a1 z0n1 z0c1,.slice z0a2 z0n2 z0c2,.slice z0a3 z0n3 z0c3,.slice z0a4 z0n4 z0c4,.slice z0a5 z0n5 z0c5]):=⟨_,_,_,_,_,rfl,hv.mono (fun _ _ _=>trivial)⟩
    have HH0:=Lib.hid hH1
    have HM0:=Lib.hid hH2
    have HD0:=Lib.hid (HB2.out.trans (hb.mono HB2.out.size))
    have HC1:=Lib.hid hb
    refine puts_as (ps:=[(0,40,.slice (some ⟨w1.heap.size,0,none⟩) 18 18),(1,41,.int .i64 (i:Int)),(2,42,.pointer (some ⟨w1.heap.size,i,none⟩)),(3,43,.string ⟨(op_ i).toArray⟩),(4,44,.string (⟨#[120,32]⟩ ++ ⟨(op_ i).toArray⟩)),(5,45,.string (⟨#[120,32]⟩ ++ ⟨(op_ i).toArray⟩ ++ ⟨#[32,121,32]⟩)),(6,46,.slice (some ⟨w1.heap.size,0,none⟩) 18 18),(7,47,.int .i64 (k:Int)),(8,48,.pointer (some ⟨w1.heap.size,k,none⟩)),(9,49,.string ⟨(op_ k).toArray⟩),(10,50,.string (⟨#[120,32]⟩ ++ ⟨(op_ i).toArray⟩ ++ ⟨#[32,121,32]⟩ ++ ⟨(op_ k).toArray⟩)),(11,51,.string (⟨#[120,32]⟩ ++ ⟨(op_ i).toArray⟩ ++ ⟨#[32,121,32]⟩ ++ ⟨(op_ k).toArray⟩ ++ ⟨#[32,122]⟩)),(12,52,.tuple #[.agg #[.int .i64 (e1.kind:Int),.int .i64 e1.n,.string ⟨e1.name.toArray⟩,.string ⟨e1.label.toArray⟩,.slice z0a1 z0n1 z0c1,.slice z0a2 z0n2 z0c2,.slice z0a3 z0n3 z0c3,.slice z0a4 z0n4 z0c4,.slice z0a5 z0n5 z0c5],mish 0 0]),(13,39,.tuple #[.agg #[.int .i64 (e1.kind:Int),.int .i64 e1.n,.string ⟨e1.name.toArray⟩,.string ⟨e1.label.toArray⟩,.slice z0a1 z0n1 z0c1,.slice z0a2 z0n2 z0c2,.slice z0a3 z0n3 z0c3,.slice z0a4 z0n4 z0c4,.slice z0a5 z0n5 z0c5],mish 0 0]),(14,53,.agg #[.int .i64 (e1.kind:Int),.int .i64 e1.n,.string ⟨e1.name.toArray⟩,.string ⟨e1.label.toArray⟩,.slice z0a1 z0n1 z0c1,.slice z0a2 z0n2 z0c2,.slice z0a3 z0n3 z0c3,.slice z0a4 z0n4 z0c4,.slice z0a5 z0n5 z0c5]),(15,54,mish 0 0),(16,10,.pointer (some ⟨p0,0,none⟩)),(17,11,.pointer (some ⟨q0,0,none⟩))]) rfl ?_
    clear hb hne hv hb1 hb2 hH1 hH2
    simp only [puts,Act.put,List.setIfInBounds_toArray,List.set_cons_zero,List.set_cons_succ]
    go_upto_region 13 with (fail)
    refine wp_region_lv (f:=18) (txt:=lv2 i k) (x:=e2) [56,57,58,59,60,61,62,63,64,65,66,67,68,55,69,70,12,13] (fun j=>([.slice (some ⟨w1.heap.size,0,none⟩) 18 18,.int .i64 (i:Int),.pointer (some ⟨w1.heap.size,i,none⟩),.string ⟨(op_ i).toArray⟩,.string (⟨#[40,120,32]⟩ ++ ⟨(op_ i).toArray⟩),.string (⟨#[40,120,32]⟩ ++ ⟨(op_ i).toArray⟩ ++ ⟨#[32,121,41,32]⟩),.slice (some ⟨w1.heap.size,0,none⟩) 18 18,.int .i64 (k:Int),.pointer (some ⟨w1.heap.size,k,none⟩),.string ⟨(op_ k).toArray⟩,.string (⟨#[40,120,32]⟩ ++ ⟨(op_ i).toArray⟩ ++ ⟨#[32,121,41,32]⟩ ++ ⟨(op_ k).toArray⟩),.string (⟨#[40,120,32]⟩ ++ ⟨(op_ i).toArray⟩ ++ ⟨#[32,121,41,32]⟩ ++ ⟨(op_ k).toArray⟩ ++ ⟨#[32,122]⟩)]:List Value).getD j undef)
     (by kernel_rfl) (by kernel_rfl) rfl rfl (by decide) (fun j d hj=>?_) (HW.out.below HD0.out) (exprFu_of (by rw [HE2.out];simp)) HE2.out (fun j o ho=>?_) (fun j o hj hj2 ho xs b1 b2 L a w3 hI hdep=>?_) (fun o ho xs b1 b2 L a w3 hI hdep=>?_) (fun o ho a w3=>?_) (fun o ho a w3=>?_) (fun o ho xs b1 b2 L a w3 hl hI hdep=>?_) (fun o ho xs b1 b2 L a w3 hI hdep=>?_) (fun xs p1 q1 v1 hb hne hv hb1 hH1 hb2 hH2=>?_)
    ·have h:∀ d ∈ ([56,57,58,59,60,61,62,63,64,65,66,67,68,55,69,70,12,13]:List Nat),d < 121:=by decide
     exact h d (List.mem_of_getElem? hj)
    ·have hj:j < 20:=(Array.getElem?_eq_some_iff.1 ho).1
     have hj2:j=0∨j=1∨j=2∨j=3∨j=4∨j=5∨j=6∨j=7∨j=8∨j=9∨j=10∨j=11∨j=12∨j=13∨j=14∨j=15∨j=16∨j=17∨j=18∨j=19:=by omega
     rcases hj2 with rfl | rfl | rfl | rfl | rfl | rfl | rfl | rfl | rfl | rfl | rfl | rfl | rfl | rfl | rfl | rfl | rfl | rfl | rfl | rfl <;> (injection ho with ho;subst ho;exact ⟨rfl,rfl⟩)
    ·have hj3:j=0∨j=1∨j=2∨j=3∨j=4∨j=5∨j=6∨j=7∨j=8∨j=9∨j=10∨j=11∨j=13∨j=14∨j=15:=by omega
     rcases hj3 with rfl | rfl | rfl | rfl | rfl | rfl | rfl | rfl | rfl | rfl | rfl | rfl | rfl | rfl | rfl
     ·injection ho with ho;subst ho
      have r0:=hI.keep 6 rfl
      simp [lvVal] at r0
      refine ⟨?_,fun h=>by omega⟩
      unfold execOp
      simp [go_sem,lvVal,r0]
     ·injection ho with ho;subst ho
      have r0:=hI.keep 8 rfl
      simp [lvVal] at r0
      refine ⟨?_,fun h=>by omega⟩
      unfold execOp
      simp [go_sem,lvVal,r0]
     ·injection ho with ho;subst ho
      have r0:=hI.slots 0 56 rfl (hdep ⟨0,.data⟩ (by simp) rfl)
      have r1:=hI.slots 1 57 rfl (hdep ⟨1,.data⟩ (by simp) rfl)
      simp [lvVal] at r0 r1
      refine ⟨?_,fun h=>by omega⟩
      unfold execOp
      simp [go_sem,lvVal,r0,r1]
      omega
     ·injection ho with ho;subst ho
      have r0:=hI.slots 2 58 rfl (hdep ⟨2,.data⟩ (by simp) rfl)
      simp [lvVal] at r0
      have c3:=O1.out w3 (HC1.out.trans (hI.w.below.mono HC1.out.size))
      refine ⟨?_,fun h=>by omega⟩
      unfold execOp
      simp [go_sem,lvVal,r0,c3]
     ·injection ho with ho;subst ho
      have r0:=hI.slots 3 59 rfl (hdep ⟨3,.data⟩ (by simp) rfl)
      simp [lvVal] at r0
      refine ⟨?_,fun h=>by omega⟩
      unfold execOp
      simp [go_sem,lvVal,r0]
      have:=op_len i
      have:=op_len k
      omega
     ·injection ho with ho;subst ho
      have r0:=hI.slots 4 60 rfl (hdep ⟨4,.data⟩ (by simp) rfl)
      simp [lvVal] at r0
      refine ⟨?_,fun h=>by omega⟩
      unfold execOp
      simp [go_sem,lvVal,r0]
      have:=op_len i
      have:=op_len k
      omega
     ·injection ho with ho;subst ho
      have r0:=hI.keep 6 rfl
      simp [lvVal] at r0
      refine ⟨?_,fun h=>by omega⟩
      unfold execOp
      simp [go_sem,lvVal,r0]
     ·injection ho with ho;subst ho
      have r0:=hI.keep 9 rfl
      simp [lvVal] at r0
      refine ⟨?_,fun h=>by omega⟩
      unfold execOp
      simp [go_sem,lvVal,r0]
     ·injection ho with ho;subst ho
      have r0:=hI.slots 6 62 rfl (hdep ⟨6,.data⟩ (by simp) rfl)
      have r1:=hI.slots 7 63 rfl (hdep ⟨7,.data⟩ (by simp) rfl)
      simp [lvVal] at r0 r1
      refine ⟨?_,fun h=>by omega⟩
      unfold execOp
      simp [go_sem,lvVal,r0,r1]
      omega
     ·injection ho with ho;subst ho
      have r0:=hI.slots 8 64 rfl (hdep ⟨8,.data⟩ (by simp) rfl)
      simp [lvVal] at r0
      have c3:=O2.out w3 (HC1.out.trans (hI.w.below.mono HC1.out.size))
      refine ⟨?_,fun h=>by omega⟩
      unfold execOp
      simp [go_sem,lvVal,r0,c3]
     ·injection ho with ho;subst ho
      have r0:=hI.slots 5 61 rfl (hdep ⟨5,.data⟩ (by simp) rfl)
      have r1:=hI.slots 9 65 rfl (hdep ⟨9,.data⟩ (by simp) rfl)
      simp [lvVal] at r0 r1
      refine ⟨?_,fun h=>by omega⟩
      unfold execOp
      simp [go_sem,lvVal,r0,r1]
      have:=op_len i
      have:=op_len k
      omega
     ·injection ho with ho;subst ho
      have r0:=hI.slots 10 66 rfl (hdep ⟨10,.data⟩ (by simp) rfl)
      simp [lvVal] at r0
      refine ⟨?_,fun h=>by omega⟩
      unfold execOp
      simp [go_sem,lvVal,r0]
      have:=op_len i
      have:=op_len k
      omega
     ·injection ho with ho;subst ho
      have r0:=hI.slots 12 68 rfl (hdep ⟨12,.data⟩ (by simp) rfl)
      simp [lvVal] at r0
      refine ⟨?_,fun h=>(hdep ⟨12,.data⟩ (by simp) rfl)⟩
      unfold execOp
      simp [go_sem,lvVal,r0]
     ·injection ho with ho;subst ho
      have r0:=hI.slots 13 55 rfl (hdep ⟨13,.data⟩ (by simp) rfl)
      simp [lvVal] at r0
      refine ⟨?_,fun h=>by
       cases h12:L.getD 12 false with
       | true=>rfl
       | false=>have:=(hI.w.wait h12).1;rw [hdep ⟨13,.data⟩ (by simp) rfl] at this;cases this⟩
      unfold execOp
      simp [go_sem,lvVal,r0]
     ·injection ho with ho;subst ho
      have r0:=hI.slots 13 55 rfl (hdep ⟨13,.data⟩ (by simp) rfl)
      simp [lvVal] at r0
      refine ⟨?_,fun h=>by
       cases h12:L.getD 12 false with
       | true=>rfl
       | false=>have:=(hI.w.wait h12).1;rw [hdep ⟨13,.data⟩ (by simp) rfl] at this;cases this⟩
      unfold execOp
      simp [go_sem,lvVal,r0]
    ·injection ho with ho;subst ho
     have r0:=hI.slots 11 67 rfl (hdep ⟨11,.data⟩ (by simp) rfl)
     simp [lvVal] at r0
     rw [← lv2_eq]
     unfold execOp
     simp [go_sem,r0]
    ·injection ho with ho;subst ho
     unfold execOp
     simp [go_sem,zeroA]
    ·injection ho with ho;subst ho
     unfold execOp
     simp [go_sem]
    ·injection ho with ho;subst ho
     have l16:L.getD 16 false=true:=hdep ⟨16,.data⟩ (by simp) rfl
     have l14:L.getD 14 false=true:=hdep ⟨14,.data⟩ (by simp) rfl
     have l12:L.getD 12 false=true:=by
      cases h12:L.getD 12 false with
      | true=>rfl
      | false=>have:=(hI.w.wait h12).2.1;rw [l14] at this;cases this
     have r0:=hI.slots 16 12 rfl l16
     have r1:=hI.slots 14 69 rfl l14
     simp [lvVal] at r0 r1
     have hb:=(hI.w.box1 l16).2
     rw [ite_f hl] at hb
     have hlen:=oneAst.len (hI.w.told l12)
     have hone:=oneAst.one (hI.w.told l12)
     refine ⟨l12,l16,?_⟩
     have hst:=storeN (P:=Tryz.prog) (ty:=41) (i:=0) (xs:=xs) hb (by rw [hlen];exact Nat.le_refl _) (by rw [hlen];exact sz_Ast) hone
     unfold execOp
     simp [Act.eval,r0,r1,Sem.run_bind,hst]
    ·injection ho with ho;subst ho
     have l17:L.getD 17 false=true:=hdep ⟨17,.data⟩ (by simp) rfl
     have l15:L.getD 15 false=true:=hdep ⟨15,.data⟩ (by simp) rfl
     have r0:=hI.slots 17 13 rfl l17
     have r1:=hI.slots 15 70 rfl l15
     simp [lvVal,mish] at r0 r1
     have hb:=(hI.w.box2 l17).2
     refine ⟨l17,?_⟩
     have hst:=storeN (P:=Tryz.prog) (ty:=26) (i:=0) (xs:=[.int .i64 0,.int .i64 0]) hb (by simp) sz_Mis (by simp [Value.oneCell'])
     unfold execOp
     simp [Act.eval,r0,r1,Sem.run_bind,hst]
    ·obtain ⟨vn,vi,vh,vk,va,rfl,hv⟩:=hv
     obtain ⟨z1a1,z1n1,z1c1,z1a2,z1n2,z1c2,z1a3,z1n3,z1c3,z1a4,z1n4,z1c4,z1a5,z1n5,z1c5,rfl,rfl,rfl,rfl,rfl⟩:=hv.forms
     unfold Ast.cells at *
     have HV1:Hid (AstG (fun _=>True) v1 e2 [.int .i64 (e2.kind:Int),.int .i64 e2.n,.string ⟨e2.name.toArray⟩,.string ⟨e2.label.toArray⟩,.slice z1a1 z1n1 z1c1,.slice z1a2 z1n2 z1c2,.slice z1a3 z1n3 z1c3,.slice z1a4 z1n4 z1c4,.slice z1a5 z1n5 z1c5]):=⟨_,_,_,_,_,rfl,hv.mono (fun _ _ _=>trivial)⟩
     have HH1:=Lib.hid hH1
     have HM1:=Lib.hid hH2
     have HD1:=Lib.hid (HD0.out.trans (hb.mono HD0.out.size))
     have HC2:=Lib.hid (HC1.out.trans (hb.mono HC1.out.size))
     have HV0:=Lib.hid (oneAst.up (Keep.below hb) HV0.out)
     have HH0:=Lib.hid (HH0.out.belowAll hb)
     have HM0:=Lib.hid (HM0.out.belowAll hb)
     refine puts_as (ps:=[(0,56,.slice (some ⟨w1.heap.size,0,none⟩) 18 18),(1,57,.int .i64 (i:Int)),(2,58,.pointer (some ⟨w1.heap.size,i,none⟩)),(3,59,.string ⟨(op_ i).toArray⟩),(4,60,.string (⟨#[40,120,32]⟩ ++ ⟨(op_ i).toArray⟩)),(5,61,.string (⟨#[40,120,32]⟩ ++ ⟨(op_ i).toArray⟩ ++ ⟨#[32,121,41,32]⟩)),(6,62,.slice (some ⟨w1.heap.size,0,none⟩) 18 18),(7,63,.int .i64 (k:Int)),(8,64,.pointer (some ⟨w1.heap.size,k,none⟩)),(9,65,.string ⟨(op_ k).toArray⟩),(10,66,.string (⟨#[40,120,32]⟩ ++ ⟨(op_ i).toArray⟩ ++ ⟨#[32,121,41,32]⟩ ++ ⟨(op_ k).toArray⟩)),(11,67,.string (⟨#[40,120,32]⟩ ++ ⟨(op_ i).toArray⟩ ++ ⟨#[32,121,41,32]⟩ ++ ⟨(op_ k).toArray⟩ ++ ⟨#[32,122]⟩)),(12,68,.tuple #[.agg #[.int .i64 (e2.kind:Int),.int .i64 e2.n,.string ⟨e2.name.toArray⟩,.string ⟨e2.label.toArray⟩,.slice z1a1 z1n1 z1c1,.slice z1a2 z1n2 z1c2,.slice z1a3 z1n3 z1c3,.slice z1a4 z1n4 z1c4,.slice z1a5 z1n5 z1c5],mish 0 0]),(13,55,.tuple #[.agg #[.int .i64 (e2.kind:Int),.int .i64 e2.n,.string ⟨e2.name.toArray⟩,.string ⟨e2.label.toArray⟩,.slice z1a1 z1n1 z1c1,.slice z1a2 z1n2 z1c2,.slice z1a3 z1n3 z1c3,.slice z1a4 z1n4 z1c4,.slice z1a5 z1n5 z1c5],mish 0 0]),(14,69,.agg #[.int .i64 (e2.kind:Int),.int .i64 e2.n,.string ⟨e2.name.toArray⟩,.string ⟨e2.label.toArray⟩,.slice z1a1 z1n1 z1c1,.slice z1a2 z1n2 z1c2,.slice z1a3 z1n3 z1c3,.slice z1a4 z1n4 z1c4,.slice z1a5 z1n5 z1c5]),(15,70,mish 0 0),(16,12,.pointer (some ⟨p1,0,none⟩)),(17,13,.pointer (some ⟨q1,0,none⟩))]) rfl ?_
     clear hb hne hv hb1 hb2 hH1 hH2
     simp only [puts,Act.put,List.setIfInBounds_toArray,List.set_cons_zero,List.set_cons_succ]
     go_upto_region 14 with (fail)
     refine wp_region_lv (f:=18) (txt:=lv3 i k) (x:=e3) [72,73,74,75,76,77,78,79,80,81,82,83,84,71,85,86,14,15] (fun j=>([.slice (some ⟨w1.heap.size,0,none⟩) 18 18,.int .i64 (i:Int),.pointer (some ⟨w1.heap.size,i,none⟩),.string ⟨(op_ i).toArray⟩,.string (⟨#[120,32]⟩ ++ ⟨(op_ i).toArray⟩),.string (⟨#[120,32]⟩ ++ ⟨(op_ i).toArray⟩ ++ ⟨#[32,40,121,32]⟩),.slice (some ⟨w1.heap.size,0,none⟩) 18 18,.int .i64 (k:Int),.pointer (some ⟨w1.heap.size,k,none⟩),.string ⟨(op_ k).toArray⟩,.string (⟨#[120,32]⟩ ++ ⟨(op_ i).toArray⟩ ++ ⟨#[32,40,121,32]⟩ ++ ⟨(op_ k).toArray⟩),.string (⟨#[120,32]⟩ ++ ⟨(op_ i).toArray⟩ ++ ⟨#[32,40,121,32]⟩ ++ ⟨(op_ k).toArray⟩ ++ ⟨#[32,122,41]⟩)]:List Value).getD j undef)
      (by kernel_rfl) (by kernel_rfl) rfl rfl (by decide) (fun j d hj=>?_) (HW.out.below HD1.out) (exprFu_of (by rw [HE3.out];simp)) HE3.out (fun j o ho=>?_) (fun j o hj hj2 ho xs b1 b2 L a w3 hI hdep=>?_) (fun o ho xs b1 b2 L a w3 hI hdep=>?_) (fun o ho a w3=>?_) (fun o ho a w3=>?_) (fun o ho xs b1 b2 L a w3 hl hI hdep=>?_) (fun o ho xs b1 b2 L a w3 hI hdep=>?_) (fun xs p2 q2 v2 hb hne hv hb1 hH1 hb2 hH2=>?_)
     ·have h:∀ d ∈ ([72,73,74,75,76,77,78,79,80,81,82,83,84,71,85,86,14,15]:List Nat),d < 121:=by decide
      exact h d (List.mem_of_getElem? hj)
     ·have hj:j < 20:=(Array.getElem?_eq_some_iff.1 ho).1
      have hj2:j=0∨j=1∨j=2∨j=3∨j=4∨j=5∨j=6∨j=7∨j=8∨j=9∨j=10∨j=11∨j=12∨j=13∨j=14∨j=15∨j=16∨j=17∨j=18∨j=19:=by omega
      rcases hj2 with rfl | rfl | rfl | rfl | rfl | rfl | rfl | rfl | rfl | rfl | rfl | rfl | rfl | rfl | rfl | rfl | rfl | rfl | rfl | rfl <;> (injection ho with ho;subst ho;exact ⟨rfl,rfl⟩)
     ·have hj3:j=0∨j=1∨j=2∨j=3∨j=4∨j=5∨j=6∨j=7∨j=8∨j=9∨j=10∨j=11∨j=13∨j=14∨j=15:=by omega
      rcases hj3 with rfl | rfl | rfl | rfl | rfl | rfl | rfl | rfl | rfl | rfl | rfl | rfl | rfl | rfl | rfl
      ·injection ho with ho;subst ho
       have r0:=hI.keep 6 rfl
       simp [lvVal] at r0
       refine ⟨?_,fun h=>by omega⟩
       unfold execOp
       simp [go_sem,lvVal,r0]
      ·injection ho with ho;subst ho
       have r0:=hI.keep 8 rfl
       simp [lvVal] at r0
       refine ⟨?_,fun h=>by omega⟩
       unfold execOp
       simp [go_sem,lvVal,r0]
      ·injection ho with ho;subst ho
       have r0:=hI.slots 0 72 rfl (hdep ⟨0,.data⟩ (by simp) rfl)
       have r1:=hI.slots 1 73 rfl (hdep ⟨1,.data⟩ (by simp) rfl)
       simp [lvVal] at r0 r1
       refine ⟨?_,fun h=>by omega⟩
       unfold execOp
       simp [go_sem,lvVal,r0,r1]
       omega
      ·injection ho with ho;subst ho
       have r0:=hI.slots 2 74 rfl (hdep ⟨2,.data⟩ (by simp) rfl)
       simp [lvVal] at r0
       have c3:=O1.out w3 (HC2.out.trans (hI.w.below.mono HC2.out.size))
       refine ⟨?_,fun h=>by omega⟩
       unfold execOp
       simp [go_sem,lvVal,r0,c3]
      ·injection ho with ho;subst ho
       have r0:=hI.slots 3 75 rfl (hdep ⟨3,.data⟩ (by simp) rfl)
       simp [lvVal] at r0
       refine ⟨?_,fun h=>by omega⟩
       unfold execOp
       simp [go_sem,lvVal,r0]
       have:=op_len i
       have:=op_len k
       omega
      ·injection ho with ho;subst ho
       have r0:=hI.slots 4 76 rfl (hdep ⟨4,.data⟩ (by simp) rfl)
       simp [lvVal] at r0
       refine ⟨?_,fun h=>by omega⟩
       unfold execOp
       simp [go_sem,lvVal,r0]
       have:=op_len i
       have:=op_len k
       omega
      ·injection ho with ho;subst ho
       have r0:=hI.keep 6 rfl
       simp [lvVal] at r0
       refine ⟨?_,fun h=>by omega⟩
       unfold execOp
       simp [go_sem,lvVal,r0]
      ·injection ho with ho;subst ho
       have r0:=hI.keep 9 rfl
       simp [lvVal] at r0
       refine ⟨?_,fun h=>by omega⟩
       unfold execOp
       simp [go_sem,lvVal,r0]
      ·injection ho with ho;subst ho
       have r0:=hI.slots 6 78 rfl (hdep ⟨6,.data⟩ (by simp) rfl)
       have r1:=hI.slots 7 79 rfl (hdep ⟨7,.data⟩ (by simp) rfl)
       simp [lvVal] at r0 r1
       refine ⟨?_,fun h=>by omega⟩
       unfold execOp
       simp [go_sem,lvVal,r0,r1]
       omega
      ·injection ho with ho;subst ho
       have r0:=hI.slots 8 80 rfl (hdep ⟨8,.data⟩ (by simp) rfl)
       simp [lvVal] at r0
       have c3:=O2.out w3 (HC2.out.trans (hI.w.below.mono HC2.out.size))
       refine ⟨?_,fun h=>by omega⟩
       unfold execOp
       simp [go_sem,lvVal,r0,c3]
      ·injection ho with ho;subst ho
       have r0:=hI.slots 5 77 rfl (hdep ⟨5,.data⟩ (by simp) rfl)
       have r1:=hI.slots 9 81 rfl (hdep ⟨9,.data⟩ (by simp) rfl)
       simp [lvVal] at r0 r1
       refine ⟨?_,fun h=>by omega⟩
       unfold execOp
       simp [go_sem,lvVal,r0,r1]
       have:=op_len i
       have:=op_len k
       omega
      ·injection ho with ho;subst ho
       have r0:=hI.slots 10 82 rfl (hdep ⟨10,.data⟩ (by simp) rfl)
       simp [lvVal] at r0
       refine ⟨?_,fun h=>by omega⟩
       unfold execOp
       simp [go_sem,lvVal,r0]
       have:=op_len i
       have:=op_len k
       omega
      ·injection ho with ho;subst ho
       have r0:=hI.slots 12 84 rfl (hdep ⟨12,.data⟩ (by simp) rfl)
       simp [lvVal] at r0
       refine ⟨?_,fun h=>(hdep ⟨12,.data⟩ (by simp) rfl)⟩
       unfold execOp
       simp [go_sem,lvVal,r0]
      ·injection ho with ho;subst ho
       have r0:=hI.slots 13 71 rfl (hdep ⟨13,.data⟩ (by simp) rfl)
       simp [lvVal] at r0
       refine ⟨?_,fun h=>by
        cases h12:L.getD 12 false with
        | true=>rfl
        | false=>have:=(hI.w.wait h12).1;rw [hdep ⟨13,.data⟩ (by simp) rfl] at this;cases this⟩
       unfold execOp
       simp [go_sem,lvVal,r0]
      ·injection ho with ho;subst ho
       have r0:=hI.slots 13 71 rfl (hdep ⟨13,.data⟩ (by simp) rfl)
       simp [lvVal] at r0
       refine ⟨?_,fun h=>by
        cases h12:L.getD 12 false with
        | true=>rfl
        | false=>have:=(hI.w.wait h12).1;rw [hdep ⟨13,.data⟩ (by simp) rfl] at this;cases this⟩
       unfold execOp
       simp [go_sem,lvVal,r0]
     ·injection ho with ho;subst ho
      have r0:=hI.slots 11 83 rfl (hdep ⟨11,.data⟩ (by simp) rfl)
      simp [lvVal] at r0
      rw [← lv3_eq]
      unfold execOp
      simp [go_sem,r0]
     ·injection ho with ho;subst ho
      unfold execOp
      simp [go_sem,zeroA]
     ·injection ho with ho;subst ho
      unfold execOp
      simp [go_sem]
     ·injection ho with ho;subst ho
      have l16:L.getD 16 false=true:=hdep ⟨16,.data⟩ (by simp) rfl
      have l14:L.getD 14 false=true:=hdep ⟨14,.data⟩ (by simp) rfl
      have l12:L.getD 12 false=true:=by
       cases h12:L.getD 12 false with
       | true=>rfl
       | false=>have:=(hI.w.wait h12).2.1;rw [l14] at this;cases this
      have r0:=hI.slots 16 14 rfl l16
      have r1:=hI.slots 14 85 rfl l14
      simp [lvVal] at r0 r1
      have hb:=(hI.w.box1 l16).2
      rw [ite_f hl] at hb
      have hlen:=oneAst.len (hI.w.told l12)
      have hone:=oneAst.one (hI.w.told l12)
      refine ⟨l12,l16,?_⟩
      have hst:=storeN (P:=Tryz.prog) (ty:=41) (i:=0) (xs:=xs) hb (by rw [hlen];exact Nat.le_refl _) (by rw [hlen];exact sz_Ast) hone
      unfold execOp
      simp [Act.eval,r0,r1,Sem.run_bind,hst]
     ·injection ho with ho;subst ho
      have l17:L.getD 17 false=true:=hdep ⟨17,.data⟩ (by simp) rfl
      have l15:L.getD 15 false=true:=hdep ⟨15,.data⟩ (by simp) rfl
      have r0:=hI.slots 17 15 rfl l17
      have r1:=hI.slots 15 86 rfl l15
      simp [lvVal,mish] at r0 r1
      have hb:=(hI.w.box2 l17).2
      refine ⟨l17,?_⟩
      have hst:=storeN (P:=Tryz.prog) (ty:=26) (i:=0) (xs:=[.int .i64 0,.int .i64 0]) hb (by simp) sz_Mis (by simp [Value.oneCell'])
      unfold execOp
      simp [Act.eval,r0,r1,Sem.run_bind,hst]
     ·obtain ⟨vn,vi,vh,vk,va,rfl,hv⟩:=hv
      obtain ⟨z2a1,z2n1,z2c1,z2a2,z2n2,z2c2,z2a3,z2n3,z2c3,z2a4,z2n4,z2c4,z2a5,z2n5,z2c5,rfl,rfl,rfl,rfl,rfl⟩:=hv.forms
      unfold Ast.cells at *
      have HV2:Hid (AstG (fun _=>True) v2 e3 [.int .i64 (e3.kind:Int),.int .i64 e3.n,.string ⟨e3.name.toArray⟩,.string ⟨e3.label.toArray⟩,.slice z2a1 z2n1 z2c1,.slice z2a2 z2n2 z2c2,.slice z2a3 z2n3 z2c3,.slice z2a4 z2n4 z2c4,.slice z2a5 z2n5 z2c5]):=⟨_,_,_,_,_,rfl,hv.mono (fun _ _ _=>trivial)⟩
      have HH2:=Lib.hid hH1
      have HM2:=Lib.hid hH2
      have HD2:=Lib.hid (HD1.out.trans (hb.mono HD1.out.size))
      have HC3:=Lib.hid (HC2.out.trans (hb.mono HC2.out.size))
      have HV0:=Lib.hid (oneAst.up (Keep.below hb) HV0.out)
      have HH0:=Lib.hid (HH0.out.belowAll hb)
      have HM0:=Lib.hid (HM0.out.belowAll hb)
      have HV1:=Lib.hid (oneAst.up (Keep.below hb) HV1.out)
      have HH1:=Lib.hid (HH1.out.belowAll hb)
      have HM1:=Lib.hid (HM1.out.belowAll hb)
      refine puts_as (ps:=[(0,72,.slice (some ⟨w1.heap.size,0,none⟩) 18 18),(1,73,.int .i64 (i:Int)),(2,74,.pointer (some ⟨w1.heap.size,i,none⟩)),(3,75,.string ⟨(op_ i).toArray⟩),(4,76,.string (⟨#[120,32]⟩ ++ ⟨(op_ i).toArray⟩)),(5,77,.string (⟨#[120,32]⟩ ++ ⟨(op_ i).toArray⟩ ++ ⟨#[32,40,121,32]⟩)),(6,78,.slice (some ⟨w1.heap.size,0,none⟩) 18 18),(7,79,.int .i64 (k:Int)),(8,80,.pointer (some ⟨w1.heap.size,k,none⟩)),(9,81,.string ⟨(op_ k).toArray⟩),(10,82,.string (⟨#[120,32]⟩ ++ ⟨(op_ i).toArray⟩ ++ ⟨#[32,40,121,32]⟩ ++ ⟨(op_ k).toArray⟩)),(11,83,.string (⟨#[120,32]⟩ ++ ⟨(op_ i).toArray⟩ ++ ⟨#[32,40,121,32]⟩ ++ ⟨(op_ k).toArray⟩ ++ ⟨#[32,122,41]⟩)),(12,84,.tuple #[.agg #[.int .i64 (e3.kind:Int),.int .i64 e3.n,.string ⟨e3.name.toArray⟩,.string ⟨e3.label.toArray⟩,.slice z2a1 z2n1 z2c1,.slice z2a2 z2n2 z2c2,.slice z2a3 z2n3 z2c3,.slice z2a4 z2n4 z2c4,.slice z2a5 z2n5 z2c5],mish 0 0]),(13,71,.tuple #[.agg #[.int .i64 (e3.kind:Int),.int .i64 e3.n,.string ⟨e3.name.toArray⟩,.string ⟨e3.label.toArray⟩,.slice z2a1 z2n1 z2c1,.slice z2a2 z2n2 z2c2,.slice z2a3 z2n3 z2c3,.slice z2a4 z2n4 z2c4,.slice z2a5 z2n5 z2c5],mish 0 0]),(14,85,.agg #[.int .i64 (e3.kind:Int),.int .i64 e3.n,.string ⟨e3.name.toArray⟩,.string ⟨e3.label.toArray⟩,.slice z2a1 z2n1 z2c1,.slice z2a2 z2n2 z2c2,.slice z2a3 z2n3 z2c3,.slice z2a4 z2n4 z2c4,.slice z2a5 z2n5 z2c5]),(15,86,mish 0 0),(16,14,.pointer (some ⟨p2,0,none⟩)),(17,15,.pointer (some ⟨q2,0,none⟩))]) rfl ?_
      clear hb hne hv hb1 hb2 hH1 hH2
      simp only [puts,Act.put,List.setIfInBounds_toArray,List.set_cons_zero,List.set_cons_succ]
      have k0:v2.cell? ⟨q0,0,none⟩=some (.int .i64 0):=HM0.out.cell 0
      have k1:v2.cell? ⟨q1,0,none⟩=some (.int .i64 0):=HM1.out.cell 0
      have k2:v2.cell? ⟨q2,0,none⟩=some (.int .i64 0):=HM2.out.cell 0
      obtain ⟨la,hla⟩:∃ l,lvL.getD i 0=l:=⟨_,rfl⟩
      obtain ⟨lb,hlb⟩:∃ l,lvL.getD k 0=l:=⟨_,rfl⟩
      have k3:v2.cell? ⟨w1.heap.size + 1,i,none⟩=some (.int .i64 (la:Int)):=by
       rw [(HL.out.belowAll HC3.out).cell,← hla]
       have:i < lvL.length:=hi18
       simp [List.getD_eq_getElem?_getD,List.getElem?_eq_getElem this]
      have k4:v2.cell? ⟨w1.heap.size + 1,k,none⟩=some (.int .i64 (lb:Int)):=by
       rw [(HL.out.belowAll HC3.out).cell,← hlb]
       have:k < lvL.length:=hk18
       simp [List.getD_eq_getElem?_getD,List.getElem?_eq_getElem this]
      have hlv:=HLV.out
      simp only [hla,hlb] at hlv
      clear hla hlb HLV
      go_wp2
      go_quiet (fail)
      have hdr:Below v2.heap.size v2 (v2.drewN nq):=⟨rfl,rfl,rfl,Nat.le_refl _,fun _ _=>rfl⟩
      have HDR:=Lib.hid (HD2.out.trans (hdr.mono HD2.out.size))
      have HW0:=Lib.hid (oneAst.up (Keep.below hdr) HV0.out)
      have HW1:=Lib.hid (oneAst.up (Keep.below hdr) HV1.out)
      have HW2:=Lib.hid (oneAst.up (Keep.below hdr) HV2.out)
      clear hdr k0 k1 k2 k3 k4
      by_cases hl:la < lb
      ·have d1:decide ((la:Int) < (lb:Int))=true:=decide_eq_true (by omega)
       rw [if_pos hl] at hlv
       have hxy:=eqA_eq _ _ hlv
       subst hxy
       clear hlv
       have f00:=HH0.out.cell 0
       have f01:=HH0.out.cell 1
       have f02:=HH0.out.cell 2
       have f03:=HH0.out.cell 3
       have f04:=HH0.out.cell 4
       have f05:=HH0.out.cell 5
       have f06:=HH0.out.cell 6
       have f07:=HH0.out.cell 7
       have f08:=HH0.out.cell 8
       have f20:=HH2.out.cell 0
       have f21:=HH2.out.cell 1
       have f22:=HH2.out.cell 2
       have f23:=HH2.out.cell 3
       have f24:=HH2.out.cell 4
       have f25:=HH2.out.cell 5
       have f26:=HH2.out.cell 6
       have f27:=HH2.out.cell 7
       have f28:=HH2.out.cell 8
       simp only [List.getElem?_cons_zero,List.getElem?_cons_succ] at f00 f01 f02 f03 f04 f05 f06 f07 f08 f20 f21 f22 f23 f24 f25 f26 f27 f28
       have HS:=Lib.hid (sameD e1 HW0.out HW2.out)
       go_wp2_with (fail)
       refine HS.out.mono ?_
       rintro e w7 ⟨rfl,hB7⟩
       have HB7:=Lib.hid (HDR.out.trans (hB7.mono HDR.out.size))
       clear hB7
       go_wp2
       go_ret
       exact ⟨rfl,HB7.out⟩
      ·have d1:decide ((la:Int) < (lb:Int))=false:=decide_eq_false (by omega)
       rw [if_neg hl] at hlv
       have hxy:=eqA_eq _ _ hlv
       subst hxy
       clear hlv
       have f00:=HH0.out.cell 0
       have f01:=HH0.out.cell 1
       have f02:=HH0.out.cell 2
       have f03:=HH0.out.cell 3
       have f04:=HH0.out.cell 4
       have f05:=HH0.out.cell 5
       have f06:=HH0.out.cell 6
       have f07:=HH0.out.cell 7
       have f08:=HH0.out.cell 8
       have f10:=HH1.out.cell 0
       have f11:=HH1.out.cell 1
       have f12:=HH1.out.cell 2
       have f13:=HH1.out.cell 3
       have f14:=HH1.out.cell 4
       have f15:=HH1.out.cell 5
       have f16:=HH1.out.cell 6
       have f17:=HH1.out.cell 7
       have f18:=HH1.out.cell 8
       simp only [List.getElem?_cons_zero,List.getElem?_cons_succ] at f00 f01 f02 f03 f04 f05 f06 f07 f08 f10 f11 f12 f13 f14 f15 f16 f17 f18
       have HS:=Lib.hid (sameD e1 HW0.out HW1.out)
       go_wp2_with (fail)
       refine HS.out.mono ?_
       rintro e w7 ⟨rfl,hB7⟩
       have HB7:=Lib.hid (HDR.out.trans (hB7.mono HDR.out.size))
       clear hB7
       go_wp2
       go_ret
       exact ⟨rfl,HB7.out⟩
end Go.Proofs.YtpoghableadkcaaGreatDoor
