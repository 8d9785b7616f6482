/- Depths (printed by mkdep.py). -/
import Derived.Test.YtpoghableadkcaaGreatDoorDeep
import Derived.Test.YtpoghableadkcaaGreatDoorM18
namespace Go.Proofs.YtpoghableadkcaaGreatDoor
open Go.RowKit
set_option linter.unusedVariables false
set_option linter.unusedSimpArgs false

def AstG (P:Nat→Prop) (w:World) (a:Ast) (c:List Value):Prop:=∃ vn vi vh vk va,c=Ast.cells a vn vi vh vk va∧AstF P w a vn vi vh vk va
def ArgG (P:Nat→Prop) (w:World) (a:Arg) (c:List Value):Prop:=ArgF P w a c
theorem oneAst:One AstG 9:=⟨fun ⟨vn,vi,vh,vk,va,h,_⟩=>by rw [h];rfl,fun ⟨vn,vi,vh,vk,va,h,h2⟩=>by
 obtain ⟨a1,n1,c1,a2,n2,c2,a3,n3,c3,a4,n4,c4,a5,n5,c5,rfl,rfl,rfl,rfl,rfl⟩:=h2.forms
 rw [h];simp [Ast.cells,Value.oneCell'],fun hu ⟨vn,vi,vh,vk,va,h,h2⟩=>⟨vn,vi,vh,vk,va,h,h2.up hu⟩⟩
theorem AstsF.ls {P:Nat→Prop} {w:World}:∀ {l:List Ast} {f:List Value},AstsF P w l f→LsF AstG P w l f
 | [],f,h=>by rw [AstsF] at h;exact h
 | a :: l,f,h=>by
  rw [AstsF] at h
  obtain ⟨vn,vi,vh,vk,va,r,h1,h2,h3⟩:=h
  exact ⟨_,r,h1,⟨vn,vi,vh,vk,va,rfl,h2⟩,AstsF.ls h3⟩
theorem ArgsF.ls {P:Nat→Prop} {w:World}:∀ {l:List Arg} {f:List Value},ArgsF P w l f→LsF ArgG P w l f
 | [],f,h=>by rw [ArgsF] at h;exact h
 | a :: l,f,h=>by
  rw [ArgsF] at h
  obtain ⟨c,r,h1,h2,h3⟩:=h
  exact ⟨c,r,h1,h2,ArgsF.ls h3⟩
def AstD (a:Ast):Prop:=∀ {P:Nat→Prop} {w:World} {c:List Value},AstG P w a c→Calls Tryz.prog 31 #[.agg c.toArray] w fun e w'=>e=.returned (.int .i64 (dA a))∧Below w.heap.size w w'
def ArgD (a:Arg):Prop:=∀ {P:Nat→Prop} {w:World} {c:List Value},ArgG P w a c→Calls Tryz.prog 73 #[.agg c.toArray] w fun e w'=>e=.returned (.int .i64 (dG a))∧Below w.heap.size w w'
theorem max3 (x y z:Int):(if z > (if y > x then y else x) then z else (if y > x then y else x))=max (max x y) z:=by
 rw [Int.max_def,Int.max_def];split <;> split <;> split <;> omega
theorem oneArgG:One ArgG 11:=⟨fun {P w a c} h=>by
 cases a with | mk m any e=>
 unfold ArgG at h;rw [ArgF] at h
 obtain ⟨vn,vi,vh,vk,va,h,_⟩:=h
 rw [h];rfl,fun {P w a c} h=>by
 cases a with | mk m any e=>
 unfold ArgG at h;rw [ArgF] at h
 obtain ⟨vn,vi,vh,vk,va,h,h2⟩:=h
 obtain ⟨a1,n1,c1,a2,n2,c2,a3,n3,c3,a4,n4,c4,a5,n5,c5,rfl,rfl,rfl,rfl,rfl⟩:=h2.forms
 rw [h];simp [Ast.cells,Value.oneCell'],fun hu h=>ArgF.up hu _ h⟩
set_option maxHeartbeats 4000000 in
set_option maxRecDepth 1000000 in
theorem astStep {k:Nat} {n:Int} {nm lb:Bs} {ns:List Bs} {is:List Ast} {hs:List Bool} {ks:List Ast} {gs:List Arg} (h1:∀ a ∈ ks,AstD a) (h2:∀ a ∈ is,AstD a) (h3:∀ a ∈ gs,ArgD a):AstD (.mk k n nm lb ns is hs ks gs):=by
 intro P w c h
 obtain ⟨vn,vi,vh,vk,va,rfl,hf⟩:=h
 have hf2:=hf
 rw [AstF] at hf2
 obtain ⟨_,⟨fi,hri,hfi⟩,_,⟨fk,hrk,hfk⟩,⟨fa,hra,hfa⟩⟩:=hf2
 obtain ⟨a1,n1,c1,a2,n2,c2,a3,n3,c3,a4,n4,c4,a5,n5,c5,rfl,rfl,rfl,rfl,rfl⟩:=hf.forms
 have HK:=Lib.hid h1
 have HI:=Lib.hid h2
 have HG:=Lib.hid h3
 have HRK:=Lib.hid hrk
 have HRI:=Lib.hid hri
 have HRA:=Lib.hid hra
 have HFK:=Lib.hid hfk.ls
 have HFI:=Lib.hid hfi.ls
 have HFA:=Lib.hid hfa.ls
 clear h1 h2 h3 hf hrk hri hra hfk hfi hfa
 have hB0:Below w.heap.size w (w.alloc (.cells #[.int .i64 (k:Int),.int .i64 n,.string ⟨nm.toArray⟩,.string ⟨lb.toArray⟩,.slice a1 n1 c1,.slice a2 n2 c2,.slice a3 n3 c3,.slice a4 n4 c4,.slice a5 n5 c5] 41)):=(Below.refl _ _).alloc (Nat.le_refl _) _
 have hH0:=Holds.new w 41 #[.int .i64 (k:Int),.int .i64 n,.string ⟨nm.toArray⟩,.string ⟨lb.toArray⟩,.slice a1 n1 c1,.slice a2 n2 c2,.slice a3 n3 c3,.slice a4 n4 c4,.slice a5 n5 c5]
 have e0:(w.alloc (.cells #[.int .i64 (k:Int),.int .i64 n,.string ⟨nm.toArray⟩,.string ⟨lb.toArray⟩,.slice a1 n1 c1,.slice a2 n2 c2,.slice a3 n3 c3,.slice a4 n4 c4,.slice a5 n5 c5] 41)).cell? ⟨w.heap.size,0,none⟩=some (.int .i64 (k:Int)):=hH0.cell 0
 have HB0:=Lib.hid hB0
 have HH0:=Lib.hid hH0
 clear hB0 hH0
 show Calls _ _ #[.agg #[.int .i64 (k:Int),.int .i64 n,.string ⟨nm.toArray⟩,.string ⟨lb.toArray⟩,.slice a1 n1 c1,.slice a2 n2 c2,.slice a3 n3 c3,.slice a4 n4 c4,.slice a5 n5 c5]] w _
 rw [dA,dAs_fo,dAs_fo,dGs_fo]
 by_cases hk:k=0
 ·rw [if_pos hk]
  have hk0:((k:Int) == 0)=true:=by simp;omega
  clear hk
  go_enter Tryz.func31,Tryz.ntmps31
  go_wp2
  go_ret
  exact ⟨rfl,HB0.out⟩
 ·rw [if_neg hk]
  have hk0:((k:Int) == 0)=false:=by simp;omega
  clear hk
  go_enter Tryz.func31,Tryz.ntmps31
  go_wp2
  refine wp_region_puts (fun w2=>Below w.heap.size w w2∧Holds w2 w.heap.size 41 [.int .i64 (k:Int),.int .i64 n,.string ⟨nm.toArray⟩,.string ⟨lb.toArray⟩,.slice a1 n1 c1,.slice a2 n2 c2,.slice a3 n3 c3,.slice a4 n4 c4,.slice a5 n5 c5]) [(0,6,.pointer (some ⟨w.heap.size,7,none⟩)),(1,7,.slice a4 n4 c4),(2,8,.int .i64 (fo dA ks)),(3,9,.pointer (some ⟨w.heap.size,4,none⟩)),(4,10,.pointer (some ⟨w.heap.size,5,none⟩)),(5,11,.slice a2 n2 c2),(6,12,.int .i64 (fo dA is)),(7,13,.pointer (some ⟨w.heap.size,8,none⟩)),(8,14,.slice a5 n5 c5),(9,15,.int .i64 (fo dG gs)),(10,16,.int .i64 (max (max (fo dA ks) (fo dA is)) (fo dG gs))),(11,17,.int .i64 (up1 (max (max (fo dA ks) (fo dA is)) (fo dG gs)))),(12,2,.int .i64 (up1 (max (max (fo dA ks) (fo dA is)) (fo dG gs))))] 18 rfl (by kernel_rfl) (by kernel_rfl) (by kernel_rfl) ⟨HB0.out.drew,HH0.out⟩ (fun i hi=>?_) (fun w9 hS9=>?_)
  ·have hi2:i < 13:=hi
   clear hi
   have hi3:i=0∨i=1∨i=2∨i=3∨i=4∨i=5∨i=6∨i=7∨i=8∨i=9∨i=10∨i=11∨i=12:=by omega
   clear hi2
   rcases hi3 with rfl | rfl | rfl | rfl | rfl | rfl | rfl | rfl | rfl | rfl | rfl | rfl | rfl
   ·exact CalmOp.pure 0 6 (.pointer (some ⟨w.heap.size,7,none⟩)) rfl rfl rfl rfl (fun b w2 hR hB hS2=>by
     have h1:b.eval (.tmp 1)=.pointer (some ⟨w.heap.size,0,none⟩):=(hB 1 (by decide) (by kernel_rfl) (by kernel_rfl)).trans rfl
     simp only [Act.eval,Array.getD_eq_getD_getElem?] at h1
     clear hR hB
     unfold execOp
     simp [go_sem,h1])
   ·exact CalmOp.pure 1 7 (.slice a4 n4 c4) rfl rfl rfl rfl (fun b w2 hR hB hS2=>by
     have h6:b.eval (.tmp 6)=.pointer (some ⟨w.heap.size,7,none⟩):=hR 0 0 6 _ rfl (by kernel_rfl)
     simp only [Act.eval,Array.getD_eq_getD_getElem?] at h6
     clear hR hB
     unfold execOp
     have e:w2.cell? ⟨w.heap.size,7,none⟩=some (.slice a4 n4 c4):=hS2.2.cell 7
     simp [go_sem,h6,e])
   ·exact CalmOp.call 2 8 (.int .i64 (fo dA ks)) #[.slice a4 n4 c4,.func (.func 31) #[] #[]] rfl rfl rfl rfl (fun b w2 hR hB hS2=>by
     have h7:b.eval (.tmp 7)=.slice a4 n4 c4:=hR 1 1 7 _ rfl (by kernel_rfl)
     simp only [Act.eval,Array.getD_eq_getD_getElem?] at h7
     clear hR hB
     unfold execOp
     simp [go_sem,h7]) (fun w2 hS2=>(deepAst dA oneAst ks _ (enters_of Tryz.func31 (by decide) rfl) (fun a ha _ _ c h=>HK.out a ha h) (HRK.out.up (Keep.below hS2.1)) (LsF.up (fun _ _=>oneAst.up (Keep.below hS2.1)) _ HFK.out)).mono fun e w3 h=>⟨by rw [h.1],hS2.1.trans (h.2.mono hS2.1.size),hS2.2.belowAll h.2⟩)
   ·exact CalmOp.pure 3 9 (.pointer (some ⟨w.heap.size,4,none⟩)) rfl rfl rfl rfl (fun b w2 hR hB hS2=>by
     have h1:b.eval (.tmp 1)=.pointer (some ⟨w.heap.size,0,none⟩):=(hB 1 (by decide) (by kernel_rfl) (by kernel_rfl)).trans rfl
     simp only [Act.eval,Array.getD_eq_getD_getElem?] at h1
     clear hR hB
     unfold execOp
     simp [go_sem,h1])
   ·exact CalmOp.pure 4 10 (.pointer (some ⟨w.heap.size,5,none⟩)) rfl rfl rfl rfl (fun b w2 hR hB hS2=>by
     have h9:b.eval (.tmp 9)=.pointer (some ⟨w.heap.size,4,none⟩):=hR 3 3 9 _ rfl (by kernel_rfl)
     simp only [Act.eval,Array.getD_eq_getD_getElem?] at h9
     clear hR hB
     unfold execOp
     simp [go_sem,h9])
   ·exact CalmOp.pure 5 11 (.slice a2 n2 c2) rfl rfl rfl rfl (fun b w2 hR hB hS2=>by
     have h10:b.eval (.tmp 10)=.pointer (some ⟨w.heap.size,5,none⟩):=hR 4 4 10 _ rfl (by kernel_rfl)
     simp only [Act.eval,Array.getD_eq_getD_getElem?] at h10
     clear hR hB
     unfold execOp
     have e:w2.cell? ⟨w.heap.size,5,none⟩=some (.slice a2 n2 c2):=hS2.2.cell 5
     simp [go_sem,h10,e])
   ·exact CalmOp.call 6 12 (.int .i64 (fo dA is)) #[.slice a2 n2 c2,.func (.func 31) #[] #[]] rfl rfl rfl rfl (fun b w2 hR hB hS2=>by
     have h11:b.eval (.tmp 11)=.slice a2 n2 c2:=hR 5 5 11 _ rfl (by kernel_rfl)
     simp only [Act.eval,Array.getD_eq_getD_getElem?] at h11
     clear hR hB
     unfold execOp
     simp [go_sem,h11]) (fun w2 hS2=>(deepAst dA oneAst is _ (enters_of Tryz.func31 (by decide) rfl) (fun a ha _ _ c h=>HI.out a ha h) (HRI.out.up (Keep.below hS2.1)) (LsF.up (fun _ _=>oneAst.up (Keep.below hS2.1)) _ HFI.out)).mono fun e w3 h=>⟨by rw [h.1],hS2.1.trans (h.2.mono hS2.1.size),hS2.2.belowAll h.2⟩)
   ·exact CalmOp.pure 7 13 (.pointer (some ⟨w.heap.size,8,none⟩)) rfl rfl rfl rfl (fun b w2 hR hB hS2=>by
     have h1:b.eval (.tmp 1)=.pointer (some ⟨w.heap.size,0,none⟩):=(hB 1 (by decide) (by kernel_rfl) (by kernel_rfl)).trans rfl
     simp only [Act.eval,Array.getD_eq_getD_getElem?] at h1
     clear hR hB
     unfold execOp
     simp [go_sem,h1])
   ·exact CalmOp.pure 8 14 (.slice a5 n5 c5) rfl rfl rfl rfl (fun b w2 hR hB hS2=>by
     have h13:b.eval (.tmp 13)=.pointer (some ⟨w.heap.size,8,none⟩):=hR 7 7 13 _ rfl (by kernel_rfl)
     simp only [Act.eval,Array.getD_eq_getD_getElem?] at h13
     clear hR hB
     unfold execOp
     have e:w2.cell? ⟨w.heap.size,8,none⟩=some (.slice a5 n5 c5):=hS2.2.cell 8
     simp [go_sem,h13,e])
   ·exact CalmOp.call 9 15 (.int .i64 (fo dG gs)) #[.slice a5 n5 c5,.func (.func 73) #[] #[]] rfl rfl rfl rfl (fun b w2 hR hB hS2=>by
     have h14:b.eval (.tmp 14)=.slice a5 n5 c5:=hR 8 8 14 _ rfl (by kernel_rfl)
     simp only [Act.eval,Array.getD_eq_getD_getElem?] at h14
     clear hR hB
     unfold execOp
     simp [go_sem,h14]) (fun w2 hS2=>(deepArg dG oneArgG gs _ (enters_of Tryz.func73 (by decide) rfl) (fun a ha _ _ c h=>HG.out a ha h) (HRA.out.up (Keep.below hS2.1)) (LsF.up (fun _ _=>oneArgG.up (Keep.below hS2.1)) _ HFA.out)).mono fun e w3 h=>⟨by rw [h.1],hS2.1.trans (h.2.mono hS2.1.size),hS2.2.belowAll h.2⟩)
   ·exact CalmOp.pure 10 16 (.int .i64 (max (max (fo dA ks) (fo dA is)) (fo dG gs))) rfl rfl rfl rfl (fun b w2 hR hB hS2=>by
     have h8:b.eval (.tmp 8)=.int .i64 (fo dA ks):=hR 2 2 8 _ rfl (by kernel_rfl)
     have h12:b.eval (.tmp 12)=.int .i64 (fo dA is):=hR 6 6 12 _ rfl (by kernel_rfl)
     have h15:b.eval (.tmp 15)=.int .i64 (fo dG gs):=hR 9 9 15 _ rfl (by kernel_rfl)
     simp only [Act.eval,Array.getD_eq_getD_getElem?] at h8 h12 h15
     clear hR hB
     unfold execOp
     simp [go_sem,h8,h12,h15,max3])
   ·exact CalmOp.pure 11 17 (.int .i64 (up1 (max (max (fo dA ks) (fo dA is)) (fo dG gs)))) rfl rfl rfl rfl (fun b w2 hR hB hS2=>by
     have h16:b.eval (.tmp 16)=.int .i64 (max (max (fo dA ks) (fo dA is)) (fo dG gs)):=hR 10 10 16 _ rfl (by kernel_rfl)
     simp only [Act.eval,Array.getD_eq_getD_getElem?] at h16
     clear hR hB
     unfold execOp
     simp [go_sem,h16,up1])
   ·exact CalmOp.pure 12 2 (.int .i64 (up1 (max (max (fo dA ks) (fo dA is)) (fo dG gs)))) rfl rfl rfl rfl (fun b w2 hR hB hS2=>by
     have h17:b.eval (.tmp 17)=.int .i64 (up1 (max (max (fo dA ks) (fo dA is)) (fo dG gs))):=hR 11 11 17 _ rfl (by kernel_rfl)
     simp only [Act.eval,Array.getD_eq_getD_getElem?] at h17
     clear hR hB
     unfold execOp
     simp [go_sem,h17])
  simp only [puts,Act.put,List.setIfInBounds_toArray,List.set_cons_zero,List.set_cons_succ]
  go_wp2
  go_ret
  exact ⟨rfl,hS9.1⟩

theorem run_max4 (ts:Array TypeId) (t:TypeId) (a b c d:Int) (P:Program) (w:World):(Builtin.max_ ts t #[.int .i64 a,.int .i64 b,.int .i64 c,.int .i64 d]).run P w=.ok (.int .i64 (max (max (max a b) c) d)) w:=by
 have m2:∀ x y:Int,(if y > x then y else x)=max x y:=fun x y=>by rw [Int.max_def];split <;> split <;> omega
 simp only [Builtin.max_,List.foldlM,Builtin.max2,Sem.run_bind,Sem.run_pure,Result.andThen_ok,m2]
theorem run_max7 (ts:Array TypeId) (t:TypeId) (a b c d e f g:Int) (P:Program) (w:World):(Builtin.max_ ts t #[.int .i64 a,.int .i64 b,.int .i64 c,.int .i64 d,.int .i64 e,.int .i64 f,.int .i64 g]).run P w=.ok (.int .i64 (max (max (max (max (max (max a b) c) d) e) f) g)) w:=by
 have m2:∀ x y:Int,(if y > x then y else x)=max x y:=fun x y=>by rw [Int.max_def];split <;> split <;> omega
 simp only [Builtin.max_,List.foldlM,Builtin.max2,Sem.run_bind,Sem.run_pure,Result.andThen_ok,m2]
theorem run_max2 (ts:Array TypeId) (t:TypeId) (a b:Int) (P:Program) (w:World):(Builtin.max_ ts t #[.int .i64 a,.int .i64 b]).run P w=.ok (.int .i64 (max a b)) w:=by
 have m2:∀ x y:Int,(if y > x then y else x)=max x y:=fun x y=>by rw [Int.max_def];split <;> split <;> omega
 simp only [Builtin.max_,List.foldlM,Builtin.max2,Sem.run_bind,Sem.run_pure,Result.andThen_ok,m2]
set_option maxHeartbeats 4000000 in
set_option maxRecDepth 1000000 in
theorem argStep {m any:Bool} {e:Ast} (h1:AstD e):ArgD (.mk m any e):=by
 intro P w c h
 unfold ArgG at h
 rw [ArgF] at h
 obtain ⟨vn,vi,vh,vk,va,rfl,hf⟩:=h
 obtain ⟨ea1,en1,ec1,ea2,en2,ec2,ea3,en3,ec3,ea4,en4,ec4,ea5,en5,ec5,rfl,rfl,rfl,rfl,rfl⟩:=hf.forms
 have hB0:Below w.heap.size w (w.alloc (.cells #[.bool m,.bool any,.int .i64 (e.kind:Int),.int .i64 e.n,.string ⟨e.name.toArray⟩,.string ⟨e.label.toArray⟩,.slice ea1 en1 ec1,.slice ea2 en2 ec2,.slice ea3 en3 ec3,.slice ea4 en4 ec4,.slice ea5 en5 ec5] 116)):=(Below.refl _ _).alloc (Nat.le_refl _) _
 have HB0:=Lib.hid hB0
 have HH0:=Lib.hid (Holds.new w 116 #[.bool m,.bool any,.int .i64 (e.kind:Int),.int .i64 e.n,.string ⟨e.name.toArray⟩,.string ⟨e.label.toArray⟩,.slice ea1 en1 ec1,.slice ea2 en2 ec2,.slice ea3 en3 ec3,.slice ea4 en4 ec4,.slice ea5 en5 ec5])
 have HC:=Lib.hid (h1 (P:=P) (w:=w.alloc (.cells #[.bool m,.bool any,.int .i64 (e.kind:Int),.int .i64 e.n,.string ⟨e.name.toArray⟩,.string ⟨e.label.toArray⟩,.slice ea1 en1 ec1,.slice ea2 en2 ec2,.slice ea3 en3 ec3,.slice ea4 en4 ec4,.slice ea5 en5 ec5] 116)) (c:=[.int .i64 (e.kind:Int),.int .i64 e.n,.string ⟨e.name.toArray⟩,.string ⟨e.label.toArray⟩,.slice ea1 en1 ec1,.slice ea2 en2 ec2,.slice ea3 en3 ec3,.slice ea4 en4 ec4,.slice ea5 en5 ec5]) ⟨_,_,_,_,_,rfl,hf.up (Keep.below hB0)⟩)
 clear h1 hf hB0
 show Calls _ _ #[.agg #[.bool m,.bool any,.int .i64 (e.kind:Int),.int .i64 e.n,.string ⟨e.name.toArray⟩,.string ⟨e.label.toArray⟩,.slice ea1 en1 ec1,.slice ea2 en2 ec2,.slice ea3 en3 ec3,.slice ea4 en4 ec4,.slice ea5 en5 ec5]] w _
 rw [dG]
 go_enter Tryz.func73,Tryz.ntmps73
 go_wp2_with (refine wpList_load_mid rfl 41 _ rfl w.heap.size 2 rfl [.int .i64 (e.kind:Int),.int .i64 e.n,.string ⟨e.name.toArray⟩,.string ⟨e.label.toArray⟩,.slice ea1 en1 ec1,.slice ea2 en2 ec2,.slice ea3 en3 ec3,.slice ea4 en4 ec4,.slice ea5 en5 ec5] _ (HH0.out.range (n:=9) rfl) Tryz.underlying41 rfl sz_Ast ?_)
 refine HC.out.mono ?_
 rintro e w9 ⟨rfl,hb⟩
 have HB9:=Lib.hid (HB0.out.trans (hb.mono HB0.out.size))
 clear hb HC HH0
 go_wp2
 go_ret
 exact ⟨rfl,HB9.out⟩
mutual
theorem astD:∀ a,AstD a
 | .mk k n nm lb ns is hs ks gs=>astStep (astsD ks) (astsD is) (argsD gs)
theorem astsD:∀ (l:List Ast),∀ a ∈ l,AstD a
 | []=>fun a h=>by cases h
 | x :: l=>List.forall_mem_cons.2 ⟨astD x,astsD l⟩
theorem argD:∀ a,ArgD a
 | .mk m any e=>argStep (astD e)
theorem argsD:∀ (l:List Arg),∀ a ∈ l,ArgD a
 | []=>fun a h=>by cases h
 | x :: l=>List.forall_mem_cons.2 ⟨argD x,argsD l⟩
end
end Go.Proofs.YtpoghableadkcaaGreatDoor
