/- The walks of binary, expr (printed by mkexp7.py). -/
import Derived.Test.YtpoghableadkcaaGreatDoorExp6
import Derived.Test.YtpoghableadkcaaGreatDoorM10
import Derived.Deep.RegionLaw
namespace Go.Proofs.YtpoghableadkcaaGreatDoor
open Go.RowKit
set_option linter.unusedVariables false
set_option linter.unusedSimpArgs false

theorem _root_.Go.Below.set9b {n:Nat} {a W:World} {b:Nat} {x0 x1 x2 x3 x4 x5 x6 x7 x8:Value} (h:Below n a W) (hb:n ≤ b):Below n a (set9 W b x0 x1 x2 x3 x4 x5 x6 x7 x8):=
 ((((((((h.setCell hb x0).setCell hb x1).setCell hb x2).setCell hb x3).setCell hb x4).setCell hb x5).setCell hb x6).setCell hb x7).setCell hb x8
def AstBel (Q:Nat→Prop) (w:World) (x:Ast) (e:Ending) (w':World):Prop:=∃ vn vi vh vk va,e=.returned (Ast.val x vn vi vh vk va)∧AstF Q w' x vn vi vh vk va∧Below w.heap.size w w'
set_option maxHeartbeats 4000000 in
set_option maxRecDepth 100000 in
theorem lev_top {E:Env} {j:Nat}:levAt E j ≤ 10:=by
 unfold levAt
 simp only
 split <;> omega
set_option maxHeartbeats 4000000 in
set_option maxRecDepth 100000 in
theorem binaryFn {w:World} {P:Nat→Prop} {op:Bs} {x y:Ast} {za1 zn1 zc1 za2 zn2 zc2 za3 zn3 zc3 za4 zn4 zc4 za5 zn5 zc5:_} {ua1 un1 uc1 ua2 un2 uc2 ua3 un3 uc3 ua4 un4 uc4 ua5 un5 uc5:_} (hx:AstF P w x (.slice za1 zn1 zc1) (.slice za2 zn2 zc2) (.slice za3 zn3 zc3) (.slice za4 zn4 zc4) (.slice za5 zn5 zc5)) (hy:AstF P w y (.slice ua1 un1 uc1) (.slice ua2 un2 uc2) (.slice ua3 un3 uc3) (.slice ua4 un4 uc4) (.slice ua5 un5 uc5)):
  Calls Tryz.prog 70 #[.string ⟨op.toArray⟩,.agg #[.int .i64 (x.kind:Int),.int .i64 x.n,.string ⟨x.name.toArray⟩,.string ⟨x.label.toArray⟩,.slice za1 zn1 zc1,.slice za2 zn2 zc2,.slice za3 zn3 zc3,.slice za4 zn4 zc4,.slice za5 zn5 zc5],.agg #[.int .i64 (y.kind:Int),.int .i64 y.n,.string ⟨y.name.toArray⟩,.string ⟨y.label.toArray⟩,.slice ua1 un1 uc1,.slice ua2 un2 uc2,.slice ua3 un3 uc3,.slice ua4 un4 uc4,.slice ua5 un5 uc5]] w (AstBel (Or2 P w) w (.bin op x y)):=by
 have hb1:Below w.heap.size w (w.alloc (.cells #[.int .i64 (x.kind:Int),.int .i64 x.n,.string ⟨x.name.toArray⟩,.string ⟨x.label.toArray⟩,.slice za1 zn1 zc1,.slice za2 zn2 zc2,.slice za3 zn3 zc3,.slice za4 zn4 zc4,.slice za5 zn5 zc5] 41)):=(Below.refl _ _).alloc (Nat.le_refl _) _
 have hb2:Below w.heap.size w ((w.alloc (.cells #[.int .i64 (x.kind:Int),.int .i64 x.n,.string ⟨x.name.toArray⟩,.string ⟨x.label.toArray⟩,.slice za1 zn1 zc1,.slice za2 zn2 zc2,.slice za3 zn3 zc3,.slice za4 zn4 zc4,.slice za5 zn5 zc5] 41)).alloc (.cells #[.int .i64 (y.kind:Int),.int .i64 y.n,.string ⟨y.name.toArray⟩,.string ⟨y.label.toArray⟩,.slice ua1 un1 uc1,.slice ua2 un2 uc2,.slice ua3 un3 uc3,.slice ua4 un4 uc4,.slice ua5 un5 uc5] 41)):=hb1.alloc hb1.size _
 have hb3:Below w.heap.size w (((w.alloc (.cells #[.int .i64 (x.kind:Int),.int .i64 x.n,.string ⟨x.name.toArray⟩,.string ⟨x.label.toArray⟩,.slice za1 zn1 zc1,.slice za2 zn2 zc2,.slice za3 zn3 zc3,.slice za4 zn4 zc4,.slice za5 zn5 zc5] 41)).alloc (.cells #[.int .i64 (y.kind:Int),.int .i64 y.n,.string ⟨y.name.toArray⟩,.string ⟨y.label.toArray⟩,.slice ua1 un1 uc1,.slice ua2 un2 uc2,.slice ua3 un3 uc3,.slice ua4 un4 uc4,.slice ua5 un5 uc5] 41)).alloc (.cells #[.int .i64 4,.int .i64 0,.string ⟨op.toArray⟩,.string ⟨#[]⟩,.slice none 0 0,.slice none 0 0,.slice none 0 0,.slice (some ⟨w.heap.size + 1 + 1 + 1,0,none⟩) 2 2,.slice none 0 0] 41)):=hb2.alloc hb2.size _
 obtain ⟨W4,hW4⟩:∃ W4,W4=((((w.alloc (.cells #[.int .i64 (x.kind:Int),.int .i64 x.n,.string ⟨x.name.toArray⟩,.string ⟨x.label.toArray⟩,.slice za1 zn1 zc1,.slice za2 zn2 zc2,.slice za3 zn3 zc3,.slice za4 zn4 zc4,.slice za5 zn5 zc5] 41)).alloc (.cells #[.int .i64 (y.kind:Int),.int .i64 y.n,.string ⟨y.name.toArray⟩,.string ⟨y.label.toArray⟩,.slice ua1 un1 uc1,.slice ua2 un2 uc2,.slice ua3 un3 uc3,.slice ua4 un4 uc4,.slice ua5 un5 uc5] 41)).alloc (.cells #[.int .i64 4,.int .i64 0,.string ⟨op.toArray⟩,.string ⟨#[]⟩,.slice none 0 0,.slice none 0 0,.slice none 0 0,.slice (some ⟨w.heap.size + 1 + 1 + 1,0,none⟩) 2 2,.slice none 0 0] 41)).alloc (.cells #[.int .i64 (x.kind:Int),.int .i64 x.n,.string ⟨x.name.toArray⟩,.string ⟨x.label.toArray⟩,.slice za1 zn1 zc1,.slice za2 zn2 zc2,.slice za3 zn3 zc3,.slice za4 zn4 zc4,.slice za5 zn5 zc5,.int .i64 (y.kind:Int),.int .i64 y.n,.string ⟨y.name.toArray⟩,.string ⟨y.label.toArray⟩,.slice ua1 un1 uc1,.slice ua2 un2 uc2,.slice ua3 un3 uc3,.slice ua4 un4 uc4,.slice ua5 un5 uc5] 41)):=⟨_,rfl⟩
 have hb4:Below w.heap.size w W4:=by rw [hW4];exact hb3.alloc hb3.size _
 have hK:Holds W4 (w.heap.size + 1 + 1 + 1) 41 [.int .i64 (x.kind:Int),.int .i64 x.n,.string ⟨x.name.toArray⟩,.string ⟨x.label.toArray⟩,.slice za1 zn1 zc1,.slice za2 zn2 zc2,.slice za3 zn3 zc3,.slice za4 zn4 zc4,.slice za5 zn5 zc5,.int .i64 (y.kind:Int),.int .i64 y.n,.string ⟨y.name.toArray⟩,.string ⟨y.label.toArray⟩,.slice ua1 un1 uc1,.slice ua2 un2 uc2,.slice ua3 un3 uc3,.slice ua4 un4 uc4,.slice ua5 un5 uc5]:=by rw [hW4];have h:=(Holds.new (((w.alloc (.cells #[.int .i64 (x.kind:Int),.int .i64 x.n,.string ⟨x.name.toArray⟩,.string ⟨x.label.toArray⟩,.slice za1 zn1 zc1,.slice za2 zn2 zc2,.slice za3 zn3 zc3,.slice za4 zn4 zc4,.slice za5 zn5 zc5] 41)).alloc (.cells #[.int .i64 (y.kind:Int),.int .i64 y.n,.string ⟨y.name.toArray⟩,.string ⟨y.label.toArray⟩,.slice ua1 un1 uc1,.slice ua2 un2 uc2,.slice ua3 un3 uc3,.slice ua4 un4 uc4,.slice ua5 un5 uc5] 41)).alloc (.cells #[.int .i64 4,.int .i64 0,.string ⟨op.toArray⟩,.string ⟨#[]⟩,.slice none 0 0,.slice none 0 0,.slice none 0 0,.slice (some ⟨w.heap.size + 1 + 1 + 1,0,none⟩) 2 2,.slice none 0 0] 41)) 41 #[.int .i64 (x.kind:Int),.int .i64 x.n,.string ⟨x.name.toArray⟩,.string ⟨x.label.toArray⟩,.slice za1 zn1 zc1,.slice za2 zn2 zc2,.slice za3 zn3 zc3,.slice za4 zn4 zc4,.slice za5 zn5 zc5,.int .i64 (y.kind:Int),.int .i64 y.n,.string ⟨y.name.toArray⟩,.string ⟨y.label.toArray⟩,.slice ua1 un1 uc1,.slice ua2 un2 uc2,.slice ua3 un3 uc3,.slice ua4 un4 uc4,.slice ua5 un5 uc5]);rw [show (((w.alloc (.cells #[.int .i64 (x.kind:Int),.int .i64 x.n,.string ⟨x.name.toArray⟩,.string ⟨x.label.toArray⟩,.slice za1 zn1 zc1,.slice za2 zn2 zc2,.slice za3 zn3 zc3,.slice za4 zn4 zc4,.slice za5 zn5 zc5] 41)).alloc (.cells #[.int .i64 (y.kind:Int),.int .i64 y.n,.string ⟨y.name.toArray⟩,.string ⟨y.label.toArray⟩,.slice ua1 un1 uc1,.slice ua2 un2 uc2,.slice ua3 un3 uc3,.slice ua4 un4 uc4,.slice ua5 un5 uc5] 41)).alloc (.cells #[.int .i64 4,.int .i64 0,.string ⟨op.toArray⟩,.string ⟨#[]⟩,.slice none 0 0,.slice none 0 0,.slice none 0 0,.slice (some ⟨w.heap.size + 1 + 1 + 1,0,none⟩) 2 2,.slice none 0 0] 41)).heap.size=w.heap.size + 1 + 1 + 1 by simp] at h;exact h
 have hB:Holds W4 (w.heap.size + 1 + 1) 41 [.int .i64 4,.int .i64 0,.string ⟨op.toArray⟩,.string ⟨#[]⟩,.slice none 0 0,.slice none 0 0,.slice none 0 0,.slice (some ⟨w.heap.size + 1 + 1 + 1,0,none⟩) 2 2,.slice none 0 0]:=by rw [hW4];have h:=(Holds.new ((w.alloc (.cells #[.int .i64 (x.kind:Int),.int .i64 x.n,.string ⟨x.name.toArray⟩,.string ⟨x.label.toArray⟩,.slice za1 zn1 zc1,.slice za2 zn2 zc2,.slice za3 zn3 zc3,.slice za4 zn4 zc4,.slice za5 zn5 zc5] 41)).alloc (.cells #[.int .i64 (y.kind:Int),.int .i64 y.n,.string ⟨y.name.toArray⟩,.string ⟨y.label.toArray⟩,.slice ua1 un1 uc1,.slice ua2 un2 uc2,.slice ua3 un3 uc3,.slice ua4 un4 uc4,.slice ua5 un5 uc5] 41)) 41 #[.int .i64 4,.int .i64 0,.string ⟨op.toArray⟩,.string ⟨#[]⟩,.slice none 0 0,.slice none 0 0,.slice none 0 0,.slice (some ⟨w.heap.size + 1 + 1 + 1,0,none⟩) 2 2,.slice none 0 0]);rw [show ((w.alloc (.cells #[.int .i64 (x.kind:Int),.int .i64 x.n,.string ⟨x.name.toArray⟩,.string ⟨x.label.toArray⟩,.slice za1 zn1 zc1,.slice za2 zn2 zc2,.slice za3 zn3 zc3,.slice za4 zn4 zc4,.slice za5 zn5 zc5] 41)).alloc (.cells #[.int .i64 (y.kind:Int),.int .i64 y.n,.string ⟨y.name.toArray⟩,.string ⟨y.label.toArray⟩,.slice ua1 un1 uc1,.slice ua2 un2 uc2,.slice ua3 un3 uc3,.slice ua4 un4 uc4,.slice ua5 un5 uc5] 41)).heap.size=w.heap.size + 1 + 1 by simp] at h;exact h.alloc _
 have hx4:=(hx.mono (Q:=Or2 P w) (fun k hk hs=>.inl hk)).up (Keep.below hb4)
 have hy4:=(hy.mono (Q:=Or2 P w) (fun k hk hs=>.inl hk)).up (Keep.below hb4)
 have HKV:=Lib.hid (AstF.kids (k:=4) (n:=0) (s:=op) (t:=[]) ⟨_,RowL.of_holds (size:=9) hK (show Or2 P w (w.heap.size + 1 + 1 + 1) from .inr (by omega)) (by simp) rfl,AstsF.two hx4 hy4⟩)
 have HBx:=Lib.hid hB
 have HB4:=Lib.hid hb4
 clear hx hy hb1 hb2 hb3 hb4 hK hB hx4 hy4
 go_enter Tryz.func70,Tryz.ntmps70
 go_wp2
 rw [← hW4]
 refine bodyPost_ret (out9 Tryz.results70 HBx.out rfl) rfl ?_
 exact ⟨_,_,_,_,_,rfl,HKV.out,HB4.out⟩

set_option maxHeartbeats 4000000 in
set_option maxRecDepth 100000 in
theorem exprFn {E:Env} {f:Nat} (ih:∀ g,g ≤ f→ExprOk E g) {w:World} {p i lvl:Nat} {vl:Value} (hP:Par w p vl E i) (hlvl:lvl ≤ 10) (hne:expr E (f + 1) lvl i ≠ .out):
  Calls Tryz.prog 29 #[.pointer (some ⟨p,0,none⟩),.int .i64 (lvl:Int)] w (Out p vl E w (AstV (From w.heap.size)) (expr E (f + 1) lvl i)):=by

 have hp1:=hP.lt
 have hfew:=hP.few
 have hb0:Below w.heap.size w (w.alloc (.cells #[.int .i64 0,.int .i64 0,.string ⟨#[]⟩,.string ⟨#[]⟩,.slice none 0 0,.slice none 0 0,.slice none 0 0,.slice none 0 0,.slice none 0 0] 41)):=(Below.refl _ _).alloc (Nat.le_refl _) _
 have HP0:=Lib.hid (hP.belowAll hb0)
 have HB0:=Lib.hid (Holds.new w 41 #[.int .i64 0,.int .i64 0,.string ⟨#[]⟩,.string ⟨#[]⟩,.slice none 0 0,.slice none 0 0,.slice none 0 0,.slice none 0 0,.slice none 0 0])
 have HF0:=Lib.hid (Fp.of_below (p:=p) hb0)
 obtain ⟨Rr,hRr⟩:∃ Rr,expr E (f + 1) lvl i=Rr:=⟨_,rfl⟩
 rw [hRr] at hne ⊢
 have HNE:=Lib.hid hne
 have HIH:=Lib.hid ih
 rw [expr] at hRr
 have hi2:i ≤ 65536:=Nat.le_trans hP.le hfew
 clear hP hb0 hne ih
 go_enter Tryz.func29,Tryz.ntmps29
 have hszq:(w.alloc (.cells #[.int .i64 0,.int .i64 0,.string ⟨#[]⟩,.string ⟨#[]⟩,.slice none 0 0,.slice none 0 0,.slice none 0 0,.slice none 0 0,.slice none 0 0] 41)).heap.size=w.heap.size + 1:=by simp
 have HC':=(HIH.out f (Nat.le_refl _)).unary HP0.out (fun h=>by rw [h] at hRr;exact HNE.out hRr.symm)
 cases h1:unary E f i with
 | out=>exact absurd h1 (fun h=>by rw [h] at hRr;exact HNE.out hRr.symm)
 | bad c a=>
  rw [h1] at HC' hRr
  have HC:=Lib.hid HC'
  have HR:=Lib.hid hRr
  clear h1 HC' hRr 
  go_wp2_with (fail)
  refine (HC.out).mono ?_
  rintro e wz ⟨rfl,hF⟩
  rw [← HR.out]
  exact ⟨rfl,rfl,HF0.out.trans hF⟩
 | ok x j2=>
  rw [h1] at HC' hRr
  have HC:=Lib.hid HC'
  have HR:=Lib.hid hRr
  clear h1 HC' hRr
  go_wp2_with (fail)
  refine (HC.out).mono ?_
  rintro e w11 ⟨vw11,rfl,⟨vn,vi,vh,vk,va,rfl,hvx⟩,hPq,hFq⟩
  obtain ⟨za1,zn1,zc1,za2,zn2,zc2,za3,zn3,zc3,za4,zn4,zc4,za5,zn5,zc5,rfl,rfl,rfl,rfl,rfl⟩:=hvx.forms
  unfold Ast.val
  have hRr:=HR.out
  try simp only [R.bd] at hRr
  have HP11:=Lib.hid hPq
  have HF11:=Lib.hid (HF0.out.trans hFq)
  have HB11:=Lib.hid (HB0.out.fp hFq (by omega))
  clear HP0 HF0 HB0
  clear hPq hFq HR HC
  have HVx11:=Lib.hid hvx
  clear hvx
  have hw1:w.heap.size + 1 ≤ w11.heap.size:=by have h:=HF11.out.size;have h2:=HB11.out.lt;have h3:=hszq;omega
  have hvq:=HVx11.out.mono (Q:=fun k=>w.heap.size + 1 ≤ k∧k ≠ w11.heap.size) (fun k hk hs=>by have hk2:(w.alloc (.cells #[.int .i64 0,.int .i64 0,.string ⟨#[]⟩,.string ⟨#[]⟩,.slice none 0 0,.slice none 0 0,.slice none 0 0,.slice none 0 0,.slice none 0 0] 41)).heap.size ≤ k:=hk;simp at hk2;exact ⟨hk2,by omega⟩)
  clear HVx11
  have HVx11:=Lib.hid hvq
  clear hvq hszq
  have hba:Below w11.heap.size w11 (w11.alloc (.cells #[.int .i64 (x.kind:Int),.int .i64 x.n,.string ⟨x.name.toArray⟩,.string ⟨x.label.toArray⟩,.slice za1 zn1 zc1,.slice za2 zn2 zc2,.slice za3 zn3 zc3,.slice za4 zn4 zc4,.slice za5 zn5 zc5] 41)):=(Below.refl _ _).alloc (Nat.le_refl _) _
  have hbn:=Holds.new w11 41 #[.int .i64 (x.kind:Int),.int .i64 x.n,.string ⟨x.name.toArray⟩,.string ⟨x.label.toArray⟩,.slice za1 zn1 zc1,.slice za2 zn2 zc2,.slice za3 zn3 zc3,.slice za4 zn4 zc4,.slice za5 zn5 zc5]
  have HP12:=Lib.hid (HP11.out.belowAll hba)
  have HF12:=Lib.hid (HF11.out.bel hba)
  have HB12:=Lib.hid (HB11.out.belowAll hba)
  have HVx12:=Lib.hid (HVx11.out.up (Keep.below hba))
  clear HP11 HF11 HB11 HVx11
  have HA12:=Lib.hid hbn
  clear hbn
  clear hba
  have HRr:=Lib.hid hRr
  clear hRr
  have hL:=levelFn HP12.out
  have HL:=Lib.hid hL
  clear hL
  go_wp2_with (fail)
  refine (HL.out).mono ?_
  rintro e w2 ⟨rfl,hbq⟩
  have HPw2:=Lib.hid (HP12.out.belowAll hbq)
  have HFw2:=Lib.hid (HF12.out.bel hbq)
  have HBw2:=Lib.hid (HB12.out.belowAll hbq)
  have HAw2:=Lib.hid (HA12.out.belowAll hbq)
  have HVxw2:=Lib.hid (HVx12.out.up (Keep.below hbq))
  clear HP12 HF12 HB12 HA12 HVx12
  clear hbq HL
  have hbA:w11.heap.size < w2.heap.size:=HAw2.out.lt
  go_wp2
  go_loopg [6] f (fun gk v wr=>∃ (x:Ast) (j:Nat) (za1:Option Addr) (zn1 zc1:Nat) (za2:Option Addr) (zn2 zc2:Nat) (za3:Option Addr) (zn3 zc3:Nat) (za4:Option Addr) (zn4 zc4:Nat) (za5:Option Addr) (zn5 zc5:Nat),gk ≤ f∧v=.int .i64 ((levAt E j:Int) - 1)∧Hid (exprGo E gk lvl x j=Rr)∧Hid (Holds wr w11.heap.size 41 [.int .i64 (x.kind:Int),.int .i64 x.n,.string ⟨x.name.toArray⟩,.string ⟨x.label.toArray⟩,.slice za1 zn1 zc1,.slice za2 zn2 zc2,.slice za3 zn3 zc3,.slice za4 zn4 zc4,.slice za5 zn5 zc5])∧Hid (AstF (fun k=>w.heap.size + 1 ≤ k∧k ≠ w11.heap.size) wr x (.slice za1 zn1 zc1) (.slice za2 zn2 zc2) (.slice za3 zn3 zc3) (.slice za4 zn4 zc4) (.slice za5 zn5 zc5))∧Hid (Holds wr w.heap.size 41 [.int .i64 0,.int .i64 0,.string ⟨#[]⟩,.string ⟨#[]⟩,.slice none 0 0,.slice none 0 0,.slice none 0 0,.slice none 0 0,.slice none 0 0])∧Hid (Par wr p vl E j)∧Hid (Fp p w wr))
  case atStart=>exact ⟨x,_,_,_,_,_,_,_,_,_,_,_,_,_,_,_,_,Nat.le_refl _,rfl,HRr,HAw2,HVxw2,HBw2,HPw2,HFw2⟩
  case round=>
   clear HRr HAw2 HVxw2 HBw2 HPw2 HFw2
   obtain ⟨x,j,za1,zn1,zc1,za2,zn2,zc2,za3,zn3,zc3,za4,zn4,zc4,za5,zn5,zc5,hgk,hv,HR,HA,HV,HB,HP,HF⟩:=hrel
   subst hv
   obtain ⟨W2,hW2⟩:∃ W,W=wr:=⟨wr,rfl⟩
   have hjL:j ≤ 65536:=Nat.le_trans HP.out.le HP.out.few
   have hAw:w11.heap.size < wr.heap.size:=HA.out.lt
   have hl10:levAt E j ≤ 10:=lev_top
   cases gk with
   | zero=>exact absurd (HR.out.symm.trans (by rw [exprGo])) HNE.out
   | succ gk=>
    have hR:=HR.out
    rw [exprGo] at hR
    clear HR
    by_cases hl:lvl < levAt E j
    ·rw [if_pos hl] at hR
     have HQ:=Lib.hid hR
     have HJ:=Lib.hid (lev_pos hl)
     clear hR
     obtain ⟨lev,hlev⟩:∃ n,levAt E j=n:=⟨_,rfl⟩
     rw [hlev] at hl10 hl HQ ⊢
     have hl2:decide ((lvl:Int) ≤ (lev:Int) - 1)=true:=decide_eq_true (by omega)
     have hl3:((lev:Int) - 1 < (lvl:Int))=False:=by simp;omega
     clear hlev
     have hW:=wordFn HP.out 0 (by omega)
     rw [Nat.add_zero] at hW
     obtain ⟨t,ht⟩:∃ t,tokAt E j=t:=⟨_,rfl⟩
     rw [ht] at hW
     rw [textAt_tok,ht] at HQ
     unfold tokV at hW
     have HW:=Lib.hid hW
     have hfd:=field_tok1
     clear hW ht
     go_wp2_with (fail)
     refine (HW.out).mono ?_
     rintro e w3 ⟨rfl,hbq⟩
     have HPw3:=Lib.hid (HP.out.belowAll hbq)
     have HFw3:=Lib.hid (HF.out.bel hbq)
     have HAw3:=Lib.hid (HA.out.belowAll hbq)
     have HBw3:=Lib.hid (HB.out.belowAll hbq)
     have HVw3:=Lib.hid (HV.out.up (Keep.below hbq))
     clear HP HF HA HB HV
     clear hbq HW
     have hAw3:w11.heap.size < w3.heap.size:=HAw3.out.lt
     obtain ⟨c0,c1,c2,f2⟩:=HPw3.out.cells
     obtain ⟨w4,hw4⟩:∃ W,W=w3.setCell ⟨p,2,none⟩ (.int .i64 ((j:Int) + 1)):=⟨_,rfl⟩
     have HP4:Hid (Par w4 p vl E (j + 1)):=by rw [hw4];exact HPw3.out.set1 HJ.out
     have HF4:Hid (Fp p w w4):=by rw [hw4];exact HFw3.out.set 2 _
     have HA4:=Lib.hid (HAw3.out.far (p:=⟨p,2,none⟩) (show ¬ _=p by omega) (.int .i64 ((j:Int) + 1)))
     rw [← hw4] at HA4
     have HB4:=Lib.hid (HBw3.out.far (p:=⟨p,2,none⟩) (show ¬ _=p by omega) (.int .i64 ((j:Int) + 1)))
     rw [← hw4] at HB4
     have HV4:=Lib.hid (HVw3.out.up (Keep.of_fp ((Fp.refl p w3).set 2 (.int .i64 ((j:Int) + 1))) (by show ¬ _;omega)))
     rw [← hw4] at HV4
     have hsz4:w4.heap.size=w3.heap.size:=by rw [hw4];simp [World.setCell]
     clear HPw3 HFw3 HAw3 HBw3 HVw3
     go_wp2
     rw [← hw4]
     clear c0 c1 c2 f2 hfd hw4 hsz4
     have hAw4:w11.heap.size < w4.heap.size:=HA4.out.lt
     have hxn:expr E gk lev (j + 1) ≠ .out:=fun h=>by have hh:=HQ.out;rw [h] at hh;exact HNE.out hh.symm
     have hC':=(HIH.out gk (by omega)).expr (lvl:=lev) HP4.out.drew hl10 hxn
     have hwr:IntKind.i64.wrap ((lev:Int) - 1 + 1)=(lev:Int):=by rw [show (lev:Int) - 1 + 1=lev by omega];rw [IntKind.wrap_i64];omega
     have hwr2:IntKind.i64.wrap (lev:Int)=(lev:Int):=by rw [IntKind.wrap_i64];omega
     have a0:w4.cell? ⟨w11.heap.size,0,none⟩=some (.int .i64 (x.kind:Int)):=HA4.out.cell 0
     have a1:w4.cell? ⟨w11.heap.size,1,none⟩=some (.int .i64 x.n):=HA4.out.cell 1
     have a2:w4.cell? ⟨w11.heap.size,2,none⟩=some (.string ⟨x.name.toArray⟩):=HA4.out.cell 2
     have a3:w4.cell? ⟨w11.heap.size,3,none⟩=some (.string ⟨x.label.toArray⟩):=HA4.out.cell 3
     have a4:w4.cell? ⟨w11.heap.size,4,none⟩=some (.slice za1 zn1 zc1):=HA4.out.cell 4
     have a5:w4.cell? ⟨w11.heap.size,5,none⟩=some (.slice za2 zn2 zc2):=HA4.out.cell 5
     have a6:w4.cell? ⟨w11.heap.size,6,none⟩=some (.slice za3 zn3 zc3):=HA4.out.cell 6
     have a7:w4.cell? ⟨w11.heap.size,7,none⟩=some (.slice za4 zn4 zc4):=HA4.out.cell 7
     have a8:w4.cell? ⟨w11.heap.size,8,none⟩=some (.slice za5 zn5 zc5):=HA4.out.cell 8
     have hQ:=HQ.out
     cases h1:expr E gk lev (j + 1) with
     | out=>exact absurd h1 hxn
     | bad c a=>
      rw [h1] at hC' hQ
      have HC:=Lib.hid hC'
      have HR:=Lib.hid hQ
      clear h1 hC' hQ hxn HQ
      go_wp2
      go_region_dies
      all_goals (
       refine (HC.out).mono ?_
       rintro e wz ⟨rfl,hF⟩
       rw [← HR.out]
       exact ⟨rfl,rfl,Fp.trans HF4.out.drew hF⟩)
     | ok y k=>
      rw [h1] at hC' hQ
      have HC:=Lib.hid hC'
      have HR:=Lib.hid hQ
      clear h1 hC' hQ hxn HQ
      go_wp2
      go_region_law (first | (go_simp;go_at_call 29;refine (HC.out).mono ?_;rintro e w6 ⟨v6,rfl,⟨yn,yi,yh,yk,ya,rfl,hv6⟩,hP6,hF6⟩;obtain ⟨ua1,un1,uc1,ua2,un2,uc2,ua3,un3,uc3,ua4,un4,uc4,ua5,un5,uc5,rfl,rfl,rfl,rfl,rfl⟩:=hv6.forms;have HV6:=Lib.hid hv6;have HP6:=Lib.hid hP6;have HF6:=Lib.hid (Fp.trans (Fp.refl p w4).drew hF6);have hA6:=HA4.out.fp HF6.out (by omega);obtain ⟨b0,b1,b2,b3,b4,b5,b6,b7,b8⟩:=hA6.cells9;obtain ⟨g0,g1,g2,g3,g4,g5,g6,g7,g8⟩:=hA6.free9;have HA6:=Lib.hid hA6;unfold Ast.val;clear hv6 hP6 hF6 hA6) | (go_simp;go_at_call 70;have hw6:w4.heap.size ≤ w6.heap.size:=HF6.out.size;refine (binaryFn (op:=t.text) (P:=fun k=>w.heap.size + 1 ≤ k∧k ≠ w11.heap.size) (HV4.out.up (Keep.of_fp HF6.out (by show ¬ _;omega))) (HV6.out.mono (fun k hk hs=>by have hk2:w4.heap.size ≤ k:=hk;exact ⟨by omega,by omega⟩))).mono ?_;rintro e w7 ⟨n1,n2,n3,n4,n5,rfl,hv7,hb7⟩;obtain ⟨qa1,qn1,qc1,qa2,qn2,qc2,qa3,qn3,qc3,qa4,qn4,qc4,qa5,qn5,qc5,rfl,rfl,rfl,rfl,rfl⟩:=hv7.forms;have hA7:=HA6.out.belowAll hb7;obtain ⟨b0,b1,b2,b3,b4,b5,b6,b7,b8⟩:=hA7.cells9;obtain ⟨g0,g1,g2,g3,g4,g5,g6,g7,g8⟩:=hA7.free9;have HA7:=Lib.hid hA7;have HV7:=Lib.hid (hv7.mono (Q:=fun k=>w.heap.size + 1 ≤ k∧k ≠ w11.heap.size) (fun k hk hs=>by rcases hk with hk | hk <;> exact ⟨by omega,by omega⟩));have HB7:=Lib.hid (((HB4.out.fp HF6.out (by omega))).belowAll hb7);have HP7:=Lib.hid (HP6.out.belowAll hb7);have HF7:=Lib.hid (((HF4.out).trans HF6.out).bel hb7);unfold Ast.val;clear hv7 hb7 hA7))
      all_goals (
       have hlt7:w11.heap.size < w7.heap.size:=HA7.out.lt
       clear a0 a1 a2 a3 a4 a5 a6 a7 a8 b0 b1 b2 b3 b4 b5 b6 b7 b8 g0 g1 g2 g3 g4 g5 g6 g7 g8
       obtain ⟨w13,hW13⟩:∃ W,W=(((((((((w7.setCell ⟨w11.heap.size,0,none⟩ (.int .i64 ((Ast.bin t.text x y).kind:Int))).setCell ⟨w11.heap.size,1,none⟩ (.int .i64 (Ast.bin t.text x y).n)).setCell ⟨w11.heap.size,2,none⟩ (.string ⟨(Ast.bin t.text x y).name.toArray⟩)).setCell ⟨w11.heap.size,3,none⟩ (.string ⟨(Ast.bin t.text x y).label.toArray⟩)).setCell ⟨w11.heap.size,4,none⟩ (.slice qa1 qn1 qc1)).setCell ⟨w11.heap.size,5,none⟩ (.slice qa2 qn2 qc2)).setCell ⟨w11.heap.size,6,none⟩ (.slice qa3 qn3 qc3)).setCell ⟨w11.heap.size,7,none⟩ (.slice qa4 qn4 qc4)).setCell ⟨w11.heap.size,8,none⟩ (.slice qa5 qn5 qc5)):=⟨_,rfl⟩
       have hP13:=Par.setR (b:=w11.heap.size) (by omega) [.int .i64 ((Ast.bin t.text x y).kind:Int),.int .i64 (Ast.bin t.text x y).n,.string ⟨(Ast.bin t.text x y).name.toArray⟩,.string ⟨(Ast.bin t.text x y).label.toArray⟩,.slice qa1 qn1 qc1,.slice qa2 qn2 qc2,.slice qa3 qn3 qc3,.slice qa4 qn4 qc4,.slice qa5 qn5 qc5] 0 HP7.out
       have hF13:=Fp.setR (b:=w11.heap.size) (by omega) [.int .i64 ((Ast.bin t.text x y).kind:Int),.int .i64 (Ast.bin t.text x y).n,.string ⟨(Ast.bin t.text x y).name.toArray⟩,.string ⟨(Ast.bin t.text x y).label.toArray⟩,.slice qa1 qn1 qc1,.slice qa2 qn2 qc2,.slice qa3 qn3 qc3,.slice qa4 qn4 qc4,.slice qa5 qn5 qc5] 0 HF7.out
       have hA13:=Holds.setR [.int .i64 ((Ast.bin t.text x y).kind:Int),.int .i64 (Ast.bin t.text x y).n,.string ⟨(Ast.bin t.text x y).name.toArray⟩,.string ⟨(Ast.bin t.text x y).label.toArray⟩,.slice qa1 qn1 qc1,.slice qa2 qn2 qc2,.slice qa3 qn3 qc3,.slice qa4 qn4 qc4,.slice qa5 qn5 qc5] 0 HA7.out
       have hB13:=Holds.farR (b':=w11.heap.size) (by omega) [.int .i64 ((Ast.bin t.text x y).kind:Int),.int .i64 (Ast.bin t.text x y).n,.string ⟨(Ast.bin t.text x y).name.toArray⟩,.string ⟨(Ast.bin t.text x y).label.toArray⟩,.slice qa1 qn1 qc1,.slice qa2 qn2 qc2,.slice qa3 qn3 qc3,.slice qa4 qn4 qc4,.slice qa5 qn5 qc5] 0 HB7.out
       have hV13:=HV7.out.up (Keep.setR (b:=w11.heap.size) (by show ¬ _;omega) [.int .i64 ((Ast.bin t.text x y).kind:Int),.int .i64 (Ast.bin t.text x y).n,.string ⟨(Ast.bin t.text x y).name.toArray⟩,.string ⟨(Ast.bin t.text x y).label.toArray⟩,.slice qa1 qn1 qc1,.slice qa2 qn2 qc2,.slice qa3 qn3 qc3,.slice qa4 qn4 qc4,.slice qa5 qn5 qc5] 0)
       simp only [setR,Nat.reduceAdd,Nat.zero_add] at hP13 hF13 hA13 hB13 hV13
       rw [← hW13] at hP13 hF13 hA13 hB13 hV13
       rw [← hW13]
       have HP13:=Lib.hid hP13
       have HF13:=Lib.hid hF13
       have HA13:=Lib.hid hA13
       have HB13:=Lib.hid hB13
       have HV13:=Lib.hid hV13
       clear hP13 hF13 hA13 hB13 hV13 hW13
       clear HP7 HF7 HA7 HB7 HV7
       have hL:=levelFn HP13.out
       have HL:=Lib.hid hL
       clear hL
       go_wp2_with (fail)
       refine (HL.out).mono ?_
       rintro e w9 ⟨rfl,hbq⟩
       have HPw9:=Lib.hid (HP13.out.belowAll hbq)
       have HFw9:=Lib.hid (HF13.out.bel hbq)
       have HAw9:=Lib.hid (HA13.out.belowAll hbq)
       have HBw9:=Lib.hid (HB13.out.belowAll hbq)
       have HVw9:=Lib.hid (HV13.out.up (Keep.below hbq))
       clear HP13 HF13 HA13 HB13 HV13
       clear hbq HL
       go_wp2
       go_roundg gk
       case measure=>omega
       case rel=>exact ⟨(Ast.bin t.text x y),k,_,_,_,_,_,_,_,_,_,_,_,_,_,_,_,by omega,rfl,HR,HAw9,HVw9,HBw9,HPw9,HFw9⟩
      )
    ·rw [if_neg hl] at hR
     have HZ:=Lib.hid hR
     clear hR
     have hl2:decide ((lvl:Int) ≤ (levAt E j:Int) - 1)=false:=decide_eq_false (by omega)
     have a0:wr.cell? ⟨w11.heap.size,0,none⟩=some (.int .i64 (x.kind:Int)):=HA.out.cell 0
     have a1:wr.cell? ⟨w11.heap.size,1,none⟩=some (.int .i64 x.n):=HA.out.cell 1
     have a2:wr.cell? ⟨w11.heap.size,2,none⟩=some (.string ⟨x.name.toArray⟩):=HA.out.cell 2
     have a3:wr.cell? ⟨w11.heap.size,3,none⟩=some (.string ⟨x.label.toArray⟩):=HA.out.cell 3
     have a4:wr.cell? ⟨w11.heap.size,4,none⟩=some (.slice za1 zn1 zc1):=HA.out.cell 4
     have a5:wr.cell? ⟨w11.heap.size,5,none⟩=some (.slice za2 zn2 zc2):=HA.out.cell 5
     have a6:wr.cell? ⟨w11.heap.size,6,none⟩=some (.slice za3 zn3 zc3):=HA.out.cell 6
     have a7:wr.cell? ⟨w11.heap.size,7,none⟩=some (.slice za4 zn4 zc4):=HA.out.cell 7
     have a8:wr.cell? ⟨w11.heap.size,8,none⟩=some (.slice za5 zn5 zc5):=HA.out.cell 8
     have d0:wr.cell? ⟨w.heap.size,0,none⟩=some (.int .i64 0):=HB.out.cell 0
     have g0:wr.frozen? ⟨w.heap.size,0,none⟩=false:=HB.out.free 0
     have d1:wr.cell? ⟨w.heap.size,1,none⟩=some (.int .i64 0):=HB.out.cell 1
     have g1:wr.frozen? ⟨w.heap.size,1,none⟩=false:=HB.out.free 1
     have d2:wr.cell? ⟨w.heap.size,2,none⟩=some (.string ⟨#[]⟩):=HB.out.cell 2
     have g2:wr.frozen? ⟨w.heap.size,2,none⟩=false:=HB.out.free 2
     have d3:wr.cell? ⟨w.heap.size,3,none⟩=some (.string ⟨#[]⟩):=HB.out.cell 3
     have g3:wr.frozen? ⟨w.heap.size,3,none⟩=false:=HB.out.free 3
     have d4:wr.cell? ⟨w.heap.size,4,none⟩=some (.slice none 0 0):=HB.out.cell 4
     have g4:wr.frozen? ⟨w.heap.size,4,none⟩=false:=HB.out.free 4
     have d5:wr.cell? ⟨w.heap.size,5,none⟩=some (.slice none 0 0):=HB.out.cell 5
     have g5:wr.frozen? ⟨w.heap.size,5,none⟩=false:=HB.out.free 5
     have d6:wr.cell? ⟨w.heap.size,6,none⟩=some (.slice none 0 0):=HB.out.cell 6
     have g6:wr.frozen? ⟨w.heap.size,6,none⟩=false:=HB.out.free 6
     have d7:wr.cell? ⟨w.heap.size,7,none⟩=some (.slice none 0 0):=HB.out.cell 7
     have g7:wr.frozen? ⟨w.heap.size,7,none⟩=false:=HB.out.free 7
     have d8:wr.cell? ⟨w.heap.size,8,none⟩=some (.slice none 0 0):=HB.out.cell 8
     have g8:wr.frozen? ⟨w.heap.size,8,none⟩=false:=HB.out.free 8
     go_wp2
     exact ast_end2 (P:=fun k=>w.heap.size + 1 ≤ k∧k ≠ w11.heap.size) Tryz.results29 rfl rfl HB.out HV.out (by show ¬ _;omega) (by intro k hk;omega) (Nat.le_refl _) hp1 HP.out HF.out HZ.out.symm rfl rfl rfl rfl
end Go.Proofs.YtpoghableadkcaaGreatDoor
