/- Depths of declarations, statements, units (printed by mkdep2.py). -/
import Derived.Test.YtpoghableadkcaaGreatDoorDep
import Derived.Test.YtpoghableadkcaaGreatDoorUn
namespace Go.Proofs.YtpoghableadkcaaGreatDoor
open Go.RowKit
set_option linter.unusedVariables false
set_option linter.unusedSimpArgs false

theorem RowL.len {P:Nat→Prop} {w:World} {s n m:Nat} {v:Value} {f:List Value} (h:RowL P w s v n f) (e:n=m):RowL P w s v m f:=e ▸ h
theorem oneDv:One DvF 23:=⟨fun ⟨sn,si,sh,sk,sa,en,ei,eh,ek,ea,vf,h,_⟩=>by rw [h];rfl,fun ⟨sn,si,sh,sk,sa,en,ei,eh,ek,ea,vf,h,h2,h3,h4⟩=>by
 obtain ⟨a1,n1,c1,a2,n2,c2,a3,n3,c3,a4,n4,c4,a5,n5,c5,rfl,rfl,rfl,rfl,rfl⟩:=h2.forms
 obtain ⟨a1,n1,c1,a2,n2,c2,a3,n3,c3,a4,n4,c4,a5,n5,c5,rfl,rfl,rfl,rfl,rfl⟩:=h3.forms
 obtain ⟨_,_,rfl,_⟩:=h4.form
 rw [h];simp [Ast.cells,Value.oneCell'],fun hu h=>DvF.up hu h⟩
theorem oneDcl:One DclF 4:=⟨fun ⟨vv,h,_⟩=>by rw [h];rfl,fun ⟨vv,h,⟨f,h2,_⟩⟩=>by
 obtain ⟨_,_,rfl,_⟩:=h2.form
 rw [h];simp [Value.oneCell'],fun hu h=>DclF.up hu h⟩
theorem oneStm:One StmF 28:=⟨fun h=>h.one.1,fun h=>h.one.2,fun hu h=>StmF.up hu _ h⟩
theorem oneUnt:One UntF 21:=⟨fun h=>h.one.1,fun h=>h.one.2,fun hu h=>UntF.up hu h⟩
def OptG (P:Nat→Prop) (w:World) (l:List Stm) (c:List Value):Prop:=∃ v g,c=[v]∧RowL P w 28 v l.length g∧StmsF P w l g
theorem oneOpt:One OptG 1:=⟨fun ⟨v,g,h,_⟩=>by rw [h];rfl,fun ⟨v,g,h,h2,_⟩=>by
 obtain ⟨_,_,rfl,_⟩:=h2.form
 rw [h];simp [Value.oneCell'],fun hu ⟨v,g,h,h2,h3⟩=>⟨v,g,h,h2.up hu,StmsF.up hu _ h3⟩⟩
theorem StmsF.ls {P:Nat→Prop} {w:World}:∀ {l:List Stm} {f:List Value},StmsF P w l f→LsF StmF P w l f
 | [],f,h=>by rw [StmsF] at h;exact h
 | a :: l,f,h=>by
  rw [StmsF] at h
  obtain ⟨c,r,h1,h2,h3⟩:=h
  exact ⟨c,r,h1,h2,StmsF.ls h3⟩
theorem OptsF.ls {P:Nat→Prop} {w:World}:∀ {l:List (List Stm)} {f:List Value},OptsF P w l f→LsF OptG P w l f
 | [],f,h=>by rw [OptsF] at h;exact h
 | a :: l,f,h=>by
  rw [OptsF] at h
  obtain ⟨v,r,h1,⟨g,h2,h3⟩,h4⟩:=h
  exact ⟨[v],r,h1,⟨v,g,rfl,h2,h3⟩,OptsF.ls h4⟩
set_option maxHeartbeats 4000000 in
set_option maxRecDepth 1000000 in
theorem dvD (d:DVar) {P:Nat→Prop} {w:World} {c:List Value} (h:DvF P w d c):Calls Tryz.prog 109 #[.agg c.toArray] w fun e w'=>e=.returned (.int .i64 (dDv d))∧Below w.heap.size w w':=by
 obtain ⟨sn,si,sh,sk,sa,en,ei,eh,ek,ea,vf,rfl,h2,h3,h4⟩:=h
 obtain ⟨sa1,sn1,sc1,sa2,sn2,sc2,sa3,sn3,sc3,sa4,sn4,sc4,sa5,sn5,sc5,rfl,rfl,rfl,rfl,rfl⟩:=h2.forms
 obtain ⟨ea1,en1,ec1,ea2,en2,ec2,ea3,en3,ec3,ea4,en4,ec4,ea5,en5,ec5,rfl,rfl,rfl,rfl,rfl⟩:=h3.forms
 obtain ⟨fa,fc,hvf,_⟩:=h4.form
 subst hvf
 obtain ⟨fn,hfn⟩:∃ n,n=d.fields.length:=⟨_,rfl⟩
 rw [← hfn]
 have H2:=Lib.hid h2
 have H3:=Lib.hid h3
 clear h2 h3 h4 hfn
 have hB0:Below w.heap.size w (w.alloc (.cells #[.string ⟨d.name.toArray⟩,.bool d.array,.int .i64 (d.size.kind:Int),.int .i64 d.size.n,.string ⟨d.size.name.toArray⟩,.string ⟨d.size.label.toArray⟩,.slice sa1 sn1 sc1,.slice sa2 sn2 sc2,.slice sa3 sn3 sc3,.slice sa4 sn4 sc4,.slice sa5 sn5 sc5,.bool d.init,.int .i64 (d.e.kind:Int),.int .i64 d.e.n,.string ⟨d.e.name.toArray⟩,.string ⟨d.e.label.toArray⟩,.slice ea1 en1 ec1,.slice ea2 en2 ec2,.slice ea3 en3 ec3,.slice ea4 en4 ec4,.slice ea5 en5 ec5,.bool d.chan,.slice fa fn fc] 108)):=(Below.refl _ _).alloc (Nat.le_refl _) _
 have HB0:=Lib.hid hB0
 have HH0:=Lib.hid (Holds.new w 108 #[.string ⟨d.name.toArray⟩,.bool d.array,.int .i64 (d.size.kind:Int),.int .i64 d.size.n,.string ⟨d.size.name.toArray⟩,.string ⟨d.size.label.toArray⟩,.slice sa1 sn1 sc1,.slice sa2 sn2 sc2,.slice sa3 sn3 sc3,.slice sa4 sn4 sc4,.slice sa5 sn5 sc5,.bool d.init,.int .i64 (d.e.kind:Int),.int .i64 d.e.n,.string ⟨d.e.name.toArray⟩,.string ⟨d.e.label.toArray⟩,.slice ea1 en1 ec1,.slice ea2 en2 ec2,.slice ea3 en3 ec3,.slice ea4 en4 ec4,.slice ea5 en5 ec5,.bool d.chan,.slice fa fn fc])
 clear hB0
 show Calls _ _ #[.agg #[.string ⟨d.name.toArray⟩,.bool d.array,.int .i64 (d.size.kind:Int),.int .i64 d.size.n,.string ⟨d.size.name.toArray⟩,.string ⟨d.size.label.toArray⟩,.slice sa1 sn1 sc1,.slice sa2 sn2 sc2,.slice sa3 sn3 sc3,.slice sa4 sn4 sc4,.slice sa5 sn5 sc5,.bool d.init,.int .i64 (d.e.kind:Int),.int .i64 d.e.n,.string ⟨d.e.name.toArray⟩,.string ⟨d.e.label.toArray⟩,.slice ea1 en1 ec1,.slice ea2 en2 ec2,.slice ea3 en3 ec3,.slice ea4 en4 ec4,.slice ea5 en5 ec5,.bool d.chan,.slice fa fn fc]] w _
 unfold dDv
 go_enter Tryz.func109,Tryz.ntmps109
 go_wp2
 refine wp_region_puts (fun w2=>Below w.heap.size w w2∧Holds w2 w.heap.size 108 [.string ⟨d.name.toArray⟩,.bool d.array,.int .i64 (d.size.kind:Int),.int .i64 d.size.n,.string ⟨d.size.name.toArray⟩,.string ⟨d.size.label.toArray⟩,.slice sa1 sn1 sc1,.slice sa2 sn2 sc2,.slice sa3 sn3 sc3,.slice sa4 sn4 sc4,.slice sa5 sn5 sc5,.bool d.init,.int .i64 (d.e.kind:Int),.int .i64 d.e.n,.string ⟨d.e.name.toArray⟩,.string ⟨d.e.label.toArray⟩,.slice ea1 en1 ec1,.slice ea2 en2 ec2,.slice ea3 en3 ec3,.slice ea4 en4 ec4,.slice ea5 en5 ec5,.bool d.chan,.slice fa fn fc]) [(0,3,.pointer (some ⟨w.heap.size,2,none⟩)),(1,4,.agg #[.int .i64 (d.size.kind:Int),.int .i64 d.size.n,.string ⟨d.size.name.toArray⟩,.string ⟨d.size.label.toArray⟩,.slice sa1 sn1 sc1,.slice sa2 sn2 sc2,.slice sa3 sn3 sc3,.slice sa4 sn4 sc4,.slice sa5 sn5 sc5]),(2,5,.int .i64 (dA d.size)),(3,6,.pointer (some ⟨w.heap.size,12,none⟩)),(4,7,.agg #[.int .i64 (d.e.kind:Int),.int .i64 d.e.n,.string ⟨d.e.name.toArray⟩,.string ⟨d.e.label.toArray⟩,.slice ea1 en1 ec1,.slice ea2 en2 ec2,.slice ea3 en3 ec3,.slice ea4 en4 ec4,.slice ea5 en5 ec5]),(5,8,.int .i64 (dA d.e)),(6,9,.int .i64 (max (dA d.size) (dA d.e))),(7,2,.int .i64 (max (dA d.size) (dA d.e)))] 10 rfl (by kernel_rfl) (by kernel_rfl) (by kernel_rfl) ⟨HB0.out.drew,HH0.out⟩ (fun i hi=>?_) (fun w9 hS9=>?_)
 ·have hi2:i < 8:=hi
  clear hi
  have hi3:i=0∨i=1∨i=2∨i=3∨i=4∨i=5∨i=6∨i=7:=by omega
  clear hi2
  rcases hi3 with rfl | rfl | rfl | rfl | rfl | rfl | rfl | rfl
  ·exact CalmOp.pure 0 3 (.pointer (some ⟨w.heap.size,2,none⟩)) rfl rfl rfl rfl (fun b w2 hR hB hS2=>by
    have h1:b.eval (.tmp 1)=.pointer (some ⟨w.heap.size,0,none⟩):=(hB 1 (by decide) (by kernel_rfl) (by kernel_rfl)).trans rfl
    simp only [Act.eval,Array.getD_eq_getD_getElem?] at h1
    clear hR hB
    unfold execOp
    simp [go_sem,h1])
  ·exact CalmOp.pure 1 4 (.agg #[.int .i64 (d.size.kind:Int),.int .i64 d.size.n,.string ⟨d.size.name.toArray⟩,.string ⟨d.size.label.toArray⟩,.slice sa1 sn1 sc1,.slice sa2 sn2 sc2,.slice sa3 sn3 sc3,.slice sa4 sn4 sc4,.slice sa5 sn5 sc5]) rfl rfl rfl rfl (fun b w2 hR hB hS2=>by
    have h3:b.eval (.tmp 3)=.pointer (some ⟨w.heap.size,2,none⟩):=hR 0 0 3 _ rfl (by kernel_rfl)
    clear hR hB
    have e:=run_loadAt_mid (P:=Tryz.prog) w2 w.heap.size 2 41 [.int .i64 (d.size.kind:Int),.int .i64 d.size.n,.string ⟨d.size.name.toArray⟩,.string ⟨d.size.label.toArray⟩,.slice sa1 sn1 sc1,.slice sa2 sn2 sc2,.slice sa3 sn3 sc3,.slice sa4 sn4 sc4,.slice sa5 sn5 sc5] _ (hS2.2.range (n:=9) rfl) Tryz.underlying41 rfl sz_Ast
    show Sem.run Tryz.prog (do let v ← Instr.loadAt 41 (b.eval (.tmp 3));pure (Next.value v)) w2=_
    rw [h3,Sem.run_bind,e]
    rfl)
  ·exact CalmOp.call 2 5 (.int .i64 (dA d.size)) #[.agg #[.int .i64 (d.size.kind:Int),.int .i64 d.size.n,.string ⟨d.size.name.toArray⟩,.string ⟨d.size.label.toArray⟩,.slice sa1 sn1 sc1,.slice sa2 sn2 sc2,.slice sa3 sn3 sc3,.slice sa4 sn4 sc4,.slice sa5 sn5 sc5]] rfl rfl rfl rfl (fun b w2 hR hB hS2=>by
    have h4:b.eval (.tmp 4)=.agg #[.int .i64 (d.size.kind:Int),.int .i64 d.size.n,.string ⟨d.size.name.toArray⟩,.string ⟨d.size.label.toArray⟩,.slice sa1 sn1 sc1,.slice sa2 sn2 sc2,.slice sa3 sn3 sc3,.slice sa4 sn4 sc4,.slice sa5 sn5 sc5]:=hR 1 1 4 _ rfl (by kernel_rfl)
    simp only [Act.eval,Array.getD_eq_getD_getElem?] at h4
    clear hR hB
    unfold execOp
    simp [go_sem,h4]) (fun w2 hS2=>(show Calls _ _ #[.agg #[.int .i64 (d.size.kind:Int),.int .i64 d.size.n,.string ⟨d.size.name.toArray⟩,.string ⟨d.size.label.toArray⟩,.slice sa1 sn1 sc1,.slice sa2 sn2 sc2,.slice sa3 sn3 sc3,.slice sa4 sn4 sc4,.slice sa5 sn5 sc5]] w2 _ from astD d.size (P:=P) (c:=[.int .i64 (d.size.kind:Int),.int .i64 d.size.n,.string ⟨d.size.name.toArray⟩,.string ⟨d.size.label.toArray⟩,.slice sa1 sn1 sc1,.slice sa2 sn2 sc2,.slice sa3 sn3 sc3,.slice sa4 sn4 sc4,.slice sa5 sn5 sc5]) ⟨_,_,_,_,_,rfl,H2.out.up (Keep.below hS2.1)⟩).mono fun e w3 h=>⟨by rw [h.1],hS2.1.trans (h.2.mono hS2.1.size),hS2.2.belowAll h.2⟩)
  ·exact CalmOp.pure 3 6 (.pointer (some ⟨w.heap.size,12,none⟩)) rfl rfl rfl rfl (fun b w2 hR hB hS2=>by
    have h1:b.eval (.tmp 1)=.pointer (some ⟨w.heap.size,0,none⟩):=(hB 1 (by decide) (by kernel_rfl) (by kernel_rfl)).trans rfl
    simp only [Act.eval,Array.getD_eq_getD_getElem?] at h1
    clear hR hB
    unfold execOp
    simp [go_sem,h1])
  ·exact CalmOp.pure 4 7 (.agg #[.int .i64 (d.e.kind:Int),.int .i64 d.e.n,.string ⟨d.e.name.toArray⟩,.string ⟨d.e.label.toArray⟩,.slice ea1 en1 ec1,.slice ea2 en2 ec2,.slice ea3 en3 ec3,.slice ea4 en4 ec4,.slice ea5 en5 ec5]) rfl rfl rfl rfl (fun b w2 hR hB hS2=>by
    have h6:b.eval (.tmp 6)=.pointer (some ⟨w.heap.size,12,none⟩):=hR 3 3 6 _ rfl (by kernel_rfl)
    clear hR hB
    have e:=run_loadAt_mid (P:=Tryz.prog) w2 w.heap.size 12 41 [.int .i64 (d.e.kind:Int),.int .i64 d.e.n,.string ⟨d.e.name.toArray⟩,.string ⟨d.e.label.toArray⟩,.slice ea1 en1 ec1,.slice ea2 en2 ec2,.slice ea3 en3 ec3,.slice ea4 en4 ec4,.slice ea5 en5 ec5] _ (hS2.2.range (n:=9) rfl) Tryz.underlying41 rfl sz_Ast
    show Sem.run Tryz.prog (do let v ← Instr.loadAt 41 (b.eval (.tmp 6));pure (Next.value v)) w2=_
    rw [h6,Sem.run_bind,e]
    rfl)
  ·exact CalmOp.call 5 8 (.int .i64 (dA d.e)) #[.agg #[.int .i64 (d.e.kind:Int),.int .i64 d.e.n,.string ⟨d.e.name.toArray⟩,.string ⟨d.e.label.toArray⟩,.slice ea1 en1 ec1,.slice ea2 en2 ec2,.slice ea3 en3 ec3,.slice ea4 en4 ec4,.slice ea5 en5 ec5]] rfl rfl rfl rfl (fun b w2 hR hB hS2=>by
    have h7:b.eval (.tmp 7)=.agg #[.int .i64 (d.e.kind:Int),.int .i64 d.e.n,.string ⟨d.e.name.toArray⟩,.string ⟨d.e.label.toArray⟩,.slice ea1 en1 ec1,.slice ea2 en2 ec2,.slice ea3 en3 ec3,.slice ea4 en4 ec4,.slice ea5 en5 ec5]:=hR 4 4 7 _ rfl (by kernel_rfl)
    simp only [Act.eval,Array.getD_eq_getD_getElem?] at h7
    clear hR hB
    unfold execOp
    simp [go_sem,h7]) (fun w2 hS2=>(show Calls _ _ #[.agg #[.int .i64 (d.e.kind:Int),.int .i64 d.e.n,.string ⟨d.e.name.toArray⟩,.string ⟨d.e.label.toArray⟩,.slice ea1 en1 ec1,.slice ea2 en2 ec2,.slice ea3 en3 ec3,.slice ea4 en4 ec4,.slice ea5 en5 ec5]] w2 _ from astD d.e (P:=P) (c:=[.int .i64 (d.e.kind:Int),.int .i64 d.e.n,.string ⟨d.e.name.toArray⟩,.string ⟨d.e.label.toArray⟩,.slice ea1 en1 ec1,.slice ea2 en2 ec2,.slice ea3 en3 ec3,.slice ea4 en4 ec4,.slice ea5 en5 ec5]) ⟨_,_,_,_,_,rfl,H3.out.up (Keep.below hS2.1)⟩).mono fun e w3 h=>⟨by rw [h.1],hS2.1.trans (h.2.mono hS2.1.size),hS2.2.belowAll h.2⟩)
  ·exact CalmOp.pure 6 9 (.int .i64 (max (dA d.size) (dA d.e))) rfl rfl rfl rfl (fun b w2 hR hB hS2=>by
    have h5:b.eval (.tmp 5)=.int .i64 (dA d.size):=hR 2 2 5 _ rfl (by kernel_rfl)
    have h8:b.eval (.tmp 8)=.int .i64 (dA d.e):=hR 5 5 8 _ rfl (by kernel_rfl)
    simp only [Act.eval,Array.getD_eq_getD_getElem?] at h5 h8
    clear hR hB
    unfold execOp
    simp [go_sem,h5,h8,run_max2])
  ·exact CalmOp.pure 7 2 (.int .i64 (max (dA d.size) (dA d.e))) rfl rfl rfl rfl (fun b w2 hR hB hS2=>by
    have h9:b.eval (.tmp 9)=.int .i64 (max (dA d.size) (dA d.e)):=hR 6 6 9 _ rfl (by kernel_rfl)
    simp only [Act.eval,Array.getD_eq_getD_getElem?] at h9
    clear hR hB
    unfold execOp
    simp [go_sem,h9])
 simp only [puts,Act.put,List.setIfInBounds_toArray,List.set_cons_zero,List.set_cons_succ]
 go_wp2
 go_ret
 exact ⟨rfl,hS9.1⟩
set_option maxHeartbeats 4000000 in
set_option maxRecDepth 1000000 in
theorem dD_ (d:Dcl) {P:Nat→Prop} {w:World} {c:List Value} (h:DclF P w d c):Calls Tryz.prog 58 #[.agg c.toArray] w fun e w'=>e=.returned (.int .i64 (dD d))∧Below w.heap.size w w':=by
 obtain ⟨vv,rfl,f,hr,hf⟩:=h
 obtain ⟨va,vc,hvf,_⟩:=hr.form
 subst hvf
 obtain ⟨vn,hvn⟩:∃ n,n=d.vars.length:=⟨_,rfl⟩
 rw [← hvn] at hr ⊢
 have hB0:Below w.heap.size w (w.alloc (.cells #[.int .i64 d.type,.string ⟨d.named.toArray⟩,.slice va vn vc,.int .i64 (d.at_:Int)] 50)):=(Below.refl _ _).alloc (Nat.le_refl _) _
 have HB0:=Lib.hid hB0
 have HH0:=Lib.hid (Holds.new w 50 #[.int .i64 d.type,.string ⟨d.named.toArray⟩,.slice va vn vc,.int .i64 (d.at_:Int)])
 have hrr:=(hr.len hvn).up (Keep.below hB0)
 have hC:=deepDVar dDv oneDv d.vars (P:=P) (w:=w.alloc (.cells #[.int .i64 d.type,.string ⟨d.named.toArray⟩,.slice va vn vc,.int .i64 (d.at_:Int)] 50)) _ (enters_of Tryz.func109 (by decide) rfl) (fun a ha _ _ c h=>dvD a h) hrr (LsF.up (fun _ _=>oneDv.up (Keep.below hB0)) _ hf)
 have HC:=Lib.hid hC
 have e2:(w.alloc (.cells #[.int .i64 d.type,.string ⟨d.named.toArray⟩,.slice va vn vc,.int .i64 (d.at_:Int)] 50)).cell? ⟨w.heap.size,2,none⟩=some (.slice va vn vc):=HH0.out.cell 2
 clear hB0 hC hrr hr hf hvn
 show Calls _ _ #[.agg #[.int .i64 d.type,.string ⟨d.named.toArray⟩,.slice va vn vc,.int .i64 (d.at_:Int)]] w _
 unfold dD
 go_enter Tryz.func58,Tryz.ntmps58
 go_wp2_with (fail)
 refine HC.out.mono ?_
 rintro e w9 ⟨rfl,hb⟩
 have HB9:=Lib.hid (HB0.out.trans (hb.mono HB0.out.size))
 clear hb HC HH0 e2
 go_wp2
 go_ret
 exact ⟨rfl,HB9.out⟩
set_option maxHeartbeats 4000000 in
set_option maxRecDepth 1000000 in
theorem optD {l:List Stm} (hl:∀ s ∈ l,∀ {P:Nat→Prop} {w:World} {c:List Value},StmF P w s c→Calls Tryz.prog 61 #[.agg c.toArray] w fun e w'=>e=.returned (.int .i64 (dS s))∧Below w.heap.size w w') {P:Nat→Prop} {w:World} {u:Value} (h:OptG P w l [u]):
  Calls Tryz.prog 111 #[u] w fun e w'=>e=.returned (.int .i64 (fo dS l))∧Below w.heap.size w w':=by
 obtain ⟨v,g,h1,hr,hf⟩:=h
 injection h1 with h1 _
 subst h1
 have HC:=Lib.hid (deepStm dS oneStm l _ (enters_of Tryz.func61 (by decide) rfl) hl hr hf.ls)
 clear hr hf hl
 go_enter Tryz.func111,Tryz.ntmps111
 go_wp2_with (fail)
 refine HC.out.mono ?_
 rintro e w9 ⟨rfl,hb⟩
 have HB9:=Lib.hid hb
 clear hb HC
 go_wp2
 go_ret
 exact ⟨rfl,HB9.out⟩
set_option maxHeartbeats 4000000 in
set_option maxRecDepth 1000000 in
theorem stmStep {k at_:Nat} {nm tx:Bs} {n:Int} {so ra ke:Bool} {rf:Rf} {e:Ast} {es:List Ast} {gs:List Arg} {d:Dcl} {op:List (List Stm)} {bo:List Stm} (hbo:∀ s ∈ bo,∀ {P:Nat→Prop} {w:World} {c:List Value},StmF P w s c→Calls Tryz.prog 61 #[.agg c.toArray] w fun e w'=>e=.returned (.int .i64 (dS s))∧Below w.heap.size w w')
  (hop:∀ l ∈ op,∀ s ∈ l,∀ {P:Nat→Prop} {w:World} {c:List Value},StmF P w s c→Calls Tryz.prog 61 #[.agg c.toArray] w fun e w'=>e=.returned (.int .i64 (dS s))∧Below w.heap.size w w') {P:Nat→Prop} {w:World} {c:List Value} (h:StmF P w (.mk k at_ nm tx n so ra ke rf e es gs d op bo) c):
  Calls Tryz.prog 61 #[.agg c.toArray] w fun e' w'=>e'=.returned (.int .i64 (dS (.mk k at_ nm tx n so ra ke rf e es gs d op bo)))∧Below w.heap.size w w':=by
 have HBO:=Lib.hid hbo
 have HOP:=Lib.hid hop
 rw [StmF] at h
 obtain ⟨rn,ri,rh,en,ei,eh,ek,ea,ves,vas,dv,vo,vb,rfl,h2,h3,⟨f4,h4,h4'⟩,⟨f5,h5,h5'⟩,⟨f6,h6,h6'⟩,⟨f7,h7,h7'⟩,⟨f8,h8,h8'⟩⟩:=h
 clear hbo hop
 obtain ⟨ra1,rn1,rc1,ra2,rn2,rc2,ra3,rn3,rc3,rfl,rfl,rfl⟩:=RfF.forms h2
 obtain ⟨ea1,en1,ec1,ea2,en2,ec2,ea3,en3,ec3,ea4,en4,ec4,ea5,en5,ec5,rfl,rfl,rfl,rfl,rfl⟩:=h3.forms
 obtain ⟨_,⟨fi,hri,hfi⟩,_⟩:=h2
 obtain ⟨sa,sc,hx,_⟩:=h4.form
 subst hx
 obtain ⟨ga,gc,hx,_⟩:=h5.form
 subst hx
 obtain ⟨va,vc,hx,_⟩:=h6.form
 subst hx
 obtain ⟨oa,oc,hx,_⟩:=h7.form
 subst hx
 obtain ⟨ba,bc,hx,_⟩:=h8.form
 subst hx
 have H3:=Lib.hid h3
 have HRI:=Lib.hid hri
 have HFI:=Lib.hid hfi.ls
 have HRS:=Lib.hid h4
 have HFS:=Lib.hid h4'.ls
 have HRG:=Lib.hid h5
 have HFG:=Lib.hid h5'.ls
 have HDV:Hid (DvsV P w (.slice va d.vars.length vc) d.vars):=⟨f6,h6,h6'⟩
 have HRO:=Lib.hid h7
 have HFO:=Lib.hid h7'.ls
 have HRB:=Lib.hid h8
 have HFB:=Lib.hid h8'.ls
 clear h3 hri hfi h4 h4' h5 h5' h6 h6' h7 h7' h8 h8'
 obtain ⟨sn,hsn⟩:∃ n,n=es.length:=⟨_,rfl⟩
 obtain ⟨gn,hgn⟩:∃ n,n=gs.length:=⟨_,rfl⟩
 obtain ⟨vn,hvn⟩:∃ n,n=d.vars.length:=⟨_,rfl⟩
 obtain ⟨on,hon⟩:∃ n,n=op.length:=⟨_,rfl⟩
 obtain ⟨bn,hbn⟩:∃ n,n=bo.length:=⟨_,rfl⟩
 rw [← hsn] at HRS
 rw [← hgn] at HRG
 rw [← hvn] at HDV
 rw [← hon] at HRO
 rw [← hbn] at HRB
 have HSN:=Lib.hid hsn
 have HGN:=Lib.hid hgn
 have HON:=Lib.hid hon
 have HBN:=Lib.hid hbn
 rw [← hsn,← hgn,← hvn,← hon,← hbn]
 clear hsn hgn hvn hon hbn
 have hB0:Below w.heap.size w (w.alloc (.cells #[.int .i64 (k:Int),.int .i64 (at_:Int),.string ⟨nm.toArray⟩,.string ⟨tx.toArray⟩,.int .i64 n,.bool so,.bool ra,.bool ke,.slice ra1 rn1 rc1,.slice ra2 rn2 rc2,.slice ra3 rn3 rc3,.int .i64 (e.kind:Int),.int .i64 e.n,.string ⟨e.name.toArray⟩,.string ⟨e.label.toArray⟩,.slice ea1 en1 ec1,.slice ea2 en2 ec2,.slice ea3 en3 ec3,.slice ea4 en4 ec4,.slice ea5 en5 ec5,.slice sa sn sc,.slice ga gn gc,.int .i64 d.type,.string ⟨d.named.toArray⟩,.slice va vn vc,.int .i64 (d.at_:Int),.slice oa on oc,.slice ba bn bc] 57)):=(Below.refl _ _).alloc (Nat.le_refl _) _
 have HB0:=Lib.hid hB0
 have HH0:=Lib.hid (Holds.new w 57 #[.int .i64 (k:Int),.int .i64 (at_:Int),.string ⟨nm.toArray⟩,.string ⟨tx.toArray⟩,.int .i64 n,.bool so,.bool ra,.bool ke,.slice ra1 rn1 rc1,.slice ra2 rn2 rc2,.slice ra3 rn3 rc3,.int .i64 (e.kind:Int),.int .i64 e.n,.string ⟨e.name.toArray⟩,.string ⟨e.label.toArray⟩,.slice ea1 en1 ec1,.slice ea2 en2 ec2,.slice ea3 en3 ec3,.slice ea4 en4 ec4,.slice ea5 en5 ec5,.slice sa sn sc,.slice ga gn gc,.int .i64 d.type,.string ⟨d.named.toArray⟩,.slice va vn vc,.int .i64 (d.at_:Int),.slice oa on oc,.slice ba bn bc])
 clear hB0
 show Calls _ _ #[.agg #[.int .i64 (k:Int),.int .i64 (at_:Int),.string ⟨nm.toArray⟩,.string ⟨tx.toArray⟩,.int .i64 n,.bool so,.bool ra,.bool ke,.slice ra1 rn1 rc1,.slice ra2 rn2 rc2,.slice ra3 rn3 rc3,.int .i64 (e.kind:Int),.int .i64 e.n,.string ⟨e.name.toArray⟩,.string ⟨e.label.toArray⟩,.slice ea1 en1 ec1,.slice ea2 en2 ec2,.slice ea3 en3 ec3,.slice ea4 en4 ec4,.slice ea5 en5 ec5,.slice sa sn sc,.slice ga gn gc,.int .i64 d.type,.string ⟨d.named.toArray⟩,.slice va vn vc,.int .i64 (d.at_:Int),.slice oa on oc,.slice ba bn bc]] w _
 rw [dS,dSs_fo,dOs_fo]
 go_enter Tryz.func61,Tryz.ntmps61
 go_wp2
 refine wp_region_puts (fun w2=>Below w.heap.size w w2∧Holds w2 w.heap.size 57 [.int .i64 (k:Int),.int .i64 (at_:Int),.string ⟨nm.toArray⟩,.string ⟨tx.toArray⟩,.int .i64 n,.bool so,.bool ra,.bool ke,.slice ra1 rn1 rc1,.slice ra2 rn2 rc2,.slice ra3 rn3 rc3,.int .i64 (e.kind:Int),.int .i64 e.n,.string ⟨e.name.toArray⟩,.string ⟨e.label.toArray⟩,.slice ea1 en1 ec1,.slice ea2 en2 ec2,.slice ea3 en3 ec3,.slice ea4 en4 ec4,.slice ea5 en5 ec5,.slice sa sn sc,.slice ga gn gc,.int .i64 d.type,.string ⟨d.named.toArray⟩,.slice va vn vc,.int .i64 (d.at_:Int),.slice oa on oc,.slice ba bn bc]) [(0,3,.pointer (some ⟨w.heap.size,27,none⟩)),(1,4,.slice ba bn bc),(2,5,.int .i64 (fo dS bo)),(3,6,.pointer (some ⟨w.heap.size,20,none⟩)),(4,7,.slice sa sn sc),(5,8,.int .i64 (fo dA es)),(6,9,.pointer (some ⟨w.heap.size,11,none⟩)),(7,10,.agg #[.int .i64 (e.kind:Int),.int .i64 e.n,.string ⟨e.name.toArray⟩,.string ⟨e.label.toArray⟩,.slice ea1 en1 ec1,.slice ea2 en2 ec2,.slice ea3 en3 ec3,.slice ea4 en4 ec4,.slice ea5 en5 ec5]),(8,11,.int .i64 (dA e)),(9,12,.pointer (some ⟨w.heap.size,8,none⟩)),(10,13,.pointer (some ⟨w.heap.size,9,none⟩)),(11,14,.slice ra2 rn2 rc2),(12,15,.int .i64 (fo dA rf.index)),(13,16,.pointer (some ⟨w.heap.size,21,none⟩)),(14,17,.slice ga gn gc),(15,18,.int .i64 (fo dG gs)),(16,19,.pointer (some ⟨w.heap.size,22,none⟩)),(17,20,.agg #[.int .i64 d.type,.string ⟨d.named.toArray⟩,.slice va vn vc,.int .i64 (d.at_:Int)]),(18,21,.int .i64 (dD d)),(19,22,.pointer (some ⟨w.heap.size,26,none⟩)),(20,23,.slice oa on oc),(21,24,.int .i64 (fo (fun l=>fo dS l) op)),(22,25,.int .i64 (max (max (max (max (max (max (fo dS bo) (fo dA es)) (dA e)) (fo dA rf.index)) (fo dG gs)) (dD d)) (fo (fun l=>fo dS l) op))),(23,26,.int .i64 (up1 (max (max (max (max (max (max (fo dS bo) (fo dA es)) (dA e)) (fo dA rf.index)) (fo dG gs)) (dD d)) (fo (fun l=>fo dS l) op)))),(24,2,.int .i64 (up1 (max (max (max (max (max (max (fo dS bo) (fo dA es)) (dA e)) (fo dA rf.index)) (fo dG gs)) (dD d)) (fo (fun l=>fo dS l) op))))] 27 rfl (by kernel_rfl) (by kernel_rfl) (by kernel_rfl) ⟨HB0.out.drew,HH0.out⟩ (fun i hi=>?_) (fun w9 hS9=>?_)
 ·have hi2:i < 25:=hi
  clear hi
  have hi3:i=0∨i=1∨i=2∨i=3∨i=4∨i=5∨i=6∨i=7∨i=8∨i=9∨i=10∨i=11∨i=12∨i=13∨i=14∨i=15∨i=16∨i=17∨i=18∨i=19∨i=20∨i=21∨i=22∨i=23∨i=24:=by omega
  clear hi2
  rcases hi3 with rfl | rfl | rfl | rfl | rfl | rfl | rfl | rfl | rfl | rfl | rfl | rfl | rfl | rfl | rfl | rfl | rfl | rfl | rfl | rfl | rfl | rfl | rfl | rfl | rfl
  ·exact CalmOp.pure 0 3 (.pointer (some ⟨w.heap.size,27,none⟩)) rfl rfl rfl rfl (fun b w2 hR hB hS2=>by
    have h1:b.eval (.tmp 1)=.pointer (some ⟨w.heap.size,0,none⟩):=(hB 1 (by decide) (by kernel_rfl) (by kernel_rfl)).trans rfl
    simp only [Act.eval,Array.getD_eq_getD_getElem?] at h1
    clear hR hB
    unfold execOp
    simp [go_sem,h1])
  ·exact CalmOp.pure 1 4 (.slice ba bn bc) rfl rfl rfl rfl (fun b w2 hR hB hS2=>by
    have h3:b.eval (.tmp 3)=.pointer (some ⟨w.heap.size,27,none⟩):=hR 0 0 3 _ rfl (by kernel_rfl)
    simp only [Act.eval,Array.getD_eq_getD_getElem?] at h3
    clear hR hB
    unfold execOp
    have e:w2.cell? ⟨w.heap.size,27,none⟩=some (.slice ba bn bc):=hS2.2.cell 27
    simp [go_sem,h3,e])
  ·exact CalmOp.call 2 5 (.int .i64 (fo dS bo)) #[.slice ba bn bc,.func (.func 61) #[] #[]] rfl rfl rfl rfl (fun b w2 hR hB hS2=>by
    have h4:b.eval (.tmp 4)=.slice ba bn bc:=hR 1 1 4 _ rfl (by kernel_rfl)
    simp only [Act.eval,Array.getD_eq_getD_getElem?] at h4
    clear hR hB
    unfold execOp
    simp [go_sem,h4]) (fun w2 hS2=>(deepStm dS oneStm bo _ (enters_of Tryz.func61 (by decide) rfl) (fun a ha _ _ c h=>HBO.out a ha h) ((HRB.out.len HBN.out).up (Keep.below hS2.1)) (LsF.up (fun _ _=>oneStm.up (Keep.below hS2.1)) _ HFB.out)).mono fun e w3 h=>⟨by rw [h.1],hS2.1.trans (h.2.mono hS2.1.size),hS2.2.belowAll h.2⟩)
  ·exact CalmOp.pure 3 6 (.pointer (some ⟨w.heap.size,20,none⟩)) rfl rfl rfl rfl (fun b w2 hR hB hS2=>by
    have h1:b.eval (.tmp 1)=.pointer (some ⟨w.heap.size,0,none⟩):=(hB 1 (by decide) (by kernel_rfl) (by kernel_rfl)).trans rfl
    simp only [Act.eval,Array.getD_eq_getD_getElem?] at h1
    clear hR hB
    unfold execOp
    simp [go_sem,h1])
  ·exact CalmOp.pure 4 7 (.slice sa sn sc) rfl rfl rfl rfl (fun b w2 hR hB hS2=>by
    have h6:b.eval (.tmp 6)=.pointer (some ⟨w.heap.size,20,none⟩):=hR 3 3 6 _ rfl (by kernel_rfl)
    simp only [Act.eval,Array.getD_eq_getD_getElem?] at h6
    clear hR hB
    unfold execOp
    have e:w2.cell? ⟨w.heap.size,20,none⟩=some (.slice sa sn sc):=hS2.2.cell 20
    simp [go_sem,h6,e])
  ·exact CalmOp.call 5 8 (.int .i64 (fo dA es)) #[.slice sa sn sc,.func (.func 31) #[] #[]] rfl rfl rfl rfl (fun b w2 hR hB hS2=>by
    have h7:b.eval (.tmp 7)=.slice sa sn sc:=hR 4 4 7 _ rfl (by kernel_rfl)
    simp only [Act.eval,Array.getD_eq_getD_getElem?] at h7
    clear hR hB
    unfold execOp
    simp [go_sem,h7]) (fun w2 hS2=>(deepAst dA oneAst es _ (enters_of Tryz.func31 (by decide) rfl) (fun a ha _ _ c h=>astD a h) ((HRS.out.len HSN.out).up (Keep.below hS2.1)) (LsF.up (fun _ _=>oneAst.up (Keep.below hS2.1)) _ HFS.out)).mono fun e w3 h=>⟨by rw [h.1],hS2.1.trans (h.2.mono hS2.1.size),hS2.2.belowAll h.2⟩)
  ·exact CalmOp.pure 6 9 (.pointer (some ⟨w.heap.size,11,none⟩)) rfl rfl rfl rfl (fun b w2 hR hB hS2=>by
    have h1:b.eval (.tmp 1)=.pointer (some ⟨w.heap.size,0,none⟩):=(hB 1 (by decide) (by kernel_rfl) (by kernel_rfl)).trans rfl
    simp only [Act.eval,Array.getD_eq_getD_getElem?] at h1
    clear hR hB
    unfold execOp
    simp [go_sem,h1])
  ·exact CalmOp.pure 7 10 (.agg #[.int .i64 (e.kind:Int),.int .i64 e.n,.string ⟨e.name.toArray⟩,.string ⟨e.label.toArray⟩,.slice ea1 en1 ec1,.slice ea2 en2 ec2,.slice ea3 en3 ec3,.slice ea4 en4 ec4,.slice ea5 en5 ec5]) rfl rfl rfl rfl (fun b w2 hR hB hS2=>by
    have h9:b.eval (.tmp 9)=.pointer (some ⟨w.heap.size,11,none⟩):=hR 6 6 9 _ rfl (by kernel_rfl)
    clear hR hB
    have e:=run_loadAt_mid (P:=Tryz.prog) w2 w.heap.size 11 41 [.int .i64 (e.kind:Int),.int .i64 e.n,.string ⟨e.name.toArray⟩,.string ⟨e.label.toArray⟩,.slice ea1 en1 ec1,.slice ea2 en2 ec2,.slice ea3 en3 ec3,.slice ea4 en4 ec4,.slice ea5 en5 ec5] _ (hS2.2.range (n:=9) rfl) Tryz.underlying41 rfl sz_Ast
    show Sem.run Tryz.prog (do let v ← Instr.loadAt 41 (b.eval (.tmp 9));pure (Next.value v)) w2=_
    rw [h9,Sem.run_bind,e]
    rfl)
  ·exact CalmOp.call 8 11 (.int .i64 (dA e)) #[.agg #[.int .i64 (e.kind:Int),.int .i64 e.n,.string ⟨e.name.toArray⟩,.string ⟨e.label.toArray⟩,.slice ea1 en1 ec1,.slice ea2 en2 ec2,.slice ea3 en3 ec3,.slice ea4 en4 ec4,.slice ea5 en5 ec5]] rfl rfl rfl rfl (fun b w2 hR hB hS2=>by
    have h10:b.eval (.tmp 10)=.agg #[.int .i64 (e.kind:Int),.int .i64 e.n,.string ⟨e.name.toArray⟩,.string ⟨e.label.toArray⟩,.slice ea1 en1 ec1,.slice ea2 en2 ec2,.slice ea3 en3 ec3,.slice ea4 en4 ec4,.slice ea5 en5 ec5]:=hR 7 7 10 _ rfl (by kernel_rfl)
    simp only [Act.eval,Array.getD_eq_getD_getElem?] at h10
    clear hR hB
    unfold execOp
    simp [go_sem,h10]) (fun w2 hS2=>(show Calls _ _ #[.agg #[.int .i64 (e.kind:Int),.int .i64 e.n,.string ⟨e.name.toArray⟩,.string ⟨e.label.toArray⟩,.slice ea1 en1 ec1,.slice ea2 en2 ec2,.slice ea3 en3 ec3,.slice ea4 en4 ec4,.slice ea5 en5 ec5]] w2 _ from astD e (P:=P) (c:=[.int .i64 (e.kind:Int),.int .i64 e.n,.string ⟨e.name.toArray⟩,.string ⟨e.label.toArray⟩,.slice ea1 en1 ec1,.slice ea2 en2 ec2,.slice ea3 en3 ec3,.slice ea4 en4 ec4,.slice ea5 en5 ec5]) ⟨_,_,_,_,_,rfl,H3.out.up (Keep.below hS2.1)⟩).mono fun e w3 h=>⟨by rw [h.1],hS2.1.trans (h.2.mono hS2.1.size),hS2.2.belowAll h.2⟩)
  ·exact CalmOp.pure 9 12 (.pointer (some ⟨w.heap.size,8,none⟩)) rfl rfl rfl rfl (fun b w2 hR hB hS2=>by
    have h1:b.eval (.tmp 1)=.pointer (some ⟨w.heap.size,0,none⟩):=(hB 1 (by decide) (by kernel_rfl) (by kernel_rfl)).trans rfl
    simp only [Act.eval,Array.getD_eq_getD_getElem?] at h1
    clear hR hB
    unfold execOp
    simp [go_sem,h1])
  ·exact CalmOp.pure 10 13 (.pointer (some ⟨w.heap.size,9,none⟩)) rfl rfl rfl rfl (fun b w2 hR hB hS2=>by
    have h12:b.eval (.tmp 12)=.pointer (some ⟨w.heap.size,8,none⟩):=hR 9 9 12 _ rfl (by kernel_rfl)
    simp only [Act.eval,Array.getD_eq_getD_getElem?] at h12
    clear hR hB
    unfold execOp
    simp [go_sem,h12])
  ·exact CalmOp.pure 11 14 (.slice ra2 rn2 rc2) rfl rfl rfl rfl (fun b w2 hR hB hS2=>by
    have h13:b.eval (.tmp 13)=.pointer (some ⟨w.heap.size,9,none⟩):=hR 10 10 13 _ rfl (by kernel_rfl)
    simp only [Act.eval,Array.getD_eq_getD_getElem?] at h13
    clear hR hB
    unfold execOp
    have e:w2.cell? ⟨w.heap.size,9,none⟩=some (.slice ra2 rn2 rc2):=hS2.2.cell 9
    simp [go_sem,h13,e])
  ·exact CalmOp.call 12 15 (.int .i64 (fo dA rf.index)) #[.slice ra2 rn2 rc2,.func (.func 31) #[] #[]] rfl rfl rfl rfl (fun b w2 hR hB hS2=>by
    have h14:b.eval (.tmp 14)=.slice ra2 rn2 rc2:=hR 11 11 14 _ rfl (by kernel_rfl)
    simp only [Act.eval,Array.getD_eq_getD_getElem?] at h14
    clear hR hB
    unfold execOp
    simp [go_sem,h14]) (fun w2 hS2=>(deepAst dA oneAst rf.index _ (enters_of Tryz.func31 (by decide) rfl) (fun a ha _ _ c h=>astD a h) (HRI.out.up (Keep.below hS2.1)) (LsF.up (fun _ _=>oneAst.up (Keep.below hS2.1)) _ HFI.out)).mono fun e w3 h=>⟨by rw [h.1],hS2.1.trans (h.2.mono hS2.1.size),hS2.2.belowAll h.2⟩)
  ·exact CalmOp.pure 13 16 (.pointer (some ⟨w.heap.size,21,none⟩)) rfl rfl rfl rfl (fun b w2 hR hB hS2=>by
    have h1:b.eval (.tmp 1)=.pointer (some ⟨w.heap.size,0,none⟩):=(hB 1 (by decide) (by kernel_rfl) (by kernel_rfl)).trans rfl
    simp only [Act.eval,Array.getD_eq_getD_getElem?] at h1
    clear hR hB
    unfold execOp
    simp [go_sem,h1])
  ·exact CalmOp.pure 14 17 (.slice ga gn gc) rfl rfl rfl rfl (fun b w2 hR hB hS2=>by
    have h16:b.eval (.tmp 16)=.pointer (some ⟨w.heap.size,21,none⟩):=hR 13 13 16 _ rfl (by kernel_rfl)
    simp only [Act.eval,Array.getD_eq_getD_getElem?] at h16
    clear hR hB
    unfold execOp
    have e:w2.cell? ⟨w.heap.size,21,none⟩=some (.slice ga gn gc):=hS2.2.cell 21
    simp [go_sem,h16,e])
  ·exact CalmOp.call 15 18 (.int .i64 (fo dG gs)) #[.slice ga gn gc,.func (.func 73) #[] #[]] rfl rfl rfl rfl (fun b w2 hR hB hS2=>by
    have h17:b.eval (.tmp 17)=.slice ga gn gc:=hR 14 14 17 _ rfl (by kernel_rfl)
    simp only [Act.eval,Array.getD_eq_getD_getElem?] at h17
    clear hR hB
    unfold execOp
    simp [go_sem,h17]) (fun w2 hS2=>(deepArg dG oneArgG gs _ (enters_of Tryz.func73 (by decide) rfl) (fun a ha _ _ c h=>argD a h) ((HRG.out.len HGN.out).up (Keep.below hS2.1)) (LsF.up (fun _ _=>oneArgG.up (Keep.below hS2.1)) _ HFG.out)).mono fun e w3 h=>⟨by rw [h.1],hS2.1.trans (h.2.mono hS2.1.size),hS2.2.belowAll h.2⟩)
  ·exact CalmOp.pure 16 19 (.pointer (some ⟨w.heap.size,22,none⟩)) rfl rfl rfl rfl (fun b w2 hR hB hS2=>by
    have h1:b.eval (.tmp 1)=.pointer (some ⟨w.heap.size,0,none⟩):=(hB 1 (by decide) (by kernel_rfl) (by kernel_rfl)).trans rfl
    simp only [Act.eval,Array.getD_eq_getD_getElem?] at h1
    clear hR hB
    unfold execOp
    simp [go_sem,h1])
  ·exact CalmOp.pure 17 20 (.agg #[.int .i64 d.type,.string ⟨d.named.toArray⟩,.slice va vn vc,.int .i64 (d.at_:Int)]) rfl rfl rfl rfl (fun b w2 hR hB hS2=>by
    have h19:b.eval (.tmp 19)=.pointer (some ⟨w.heap.size,22,none⟩):=hR 16 16 19 _ rfl (by kernel_rfl)
    clear hR hB
    have e:=run_loadAt_mid (P:=Tryz.prog) w2 w.heap.size 22 50 [.int .i64 d.type,.string ⟨d.named.toArray⟩,.slice va vn vc,.int .i64 (d.at_:Int)] _ (hS2.2.range (n:=4) rfl) Tryz.underlying50 rfl sz_Dcl
    show Sem.run Tryz.prog (do let v ← Instr.loadAt 50 (b.eval (.tmp 19));pure (Next.value v)) w2=_
    rw [h19,Sem.run_bind,e]
    rfl)
  ·exact CalmOp.call 18 21 (.int .i64 (dD d)) #[.agg #[.int .i64 d.type,.string ⟨d.named.toArray⟩,.slice va vn vc,.int .i64 (d.at_:Int)]] rfl rfl rfl rfl (fun b w2 hR hB hS2=>by
    have h20:b.eval (.tmp 20)=.agg #[.int .i64 d.type,.string ⟨d.named.toArray⟩,.slice va vn vc,.int .i64 (d.at_:Int)]:=hR 17 17 20 _ rfl (by kernel_rfl)
    simp only [Act.eval,Array.getD_eq_getD_getElem?] at h20
    clear hR hB
    unfold execOp
    simp [go_sem,h20]) (fun w2 hS2=>(show Calls _ _ #[.agg #[.int .i64 d.type,.string ⟨d.named.toArray⟩,.slice va vn vc,.int .i64 (d.at_:Int)]] w2 _ from dD_ d (P:=P) (c:=[.int .i64 d.type,.string ⟨d.named.toArray⟩,.slice va vn vc,.int .i64 (d.at_:Int)]) ⟨_,rfl,HDV.out.up (Keep.below hS2.1)⟩).mono fun e w3 h=>⟨by rw [h.1],hS2.1.trans (h.2.mono hS2.1.size),hS2.2.belowAll h.2⟩)
  ·exact CalmOp.pure 19 22 (.pointer (some ⟨w.heap.size,26,none⟩)) rfl rfl rfl rfl (fun b w2 hR hB hS2=>by
    have h1:b.eval (.tmp 1)=.pointer (some ⟨w.heap.size,0,none⟩):=(hB 1 (by decide) (by kernel_rfl) (by kernel_rfl)).trans rfl
    simp only [Act.eval,Array.getD_eq_getD_getElem?] at h1
    clear hR hB
    unfold execOp
    simp [go_sem,h1])
  ·exact CalmOp.pure 20 23 (.slice oa on oc) rfl rfl rfl rfl (fun b w2 hR hB hS2=>by
    have h22:b.eval (.tmp 22)=.pointer (some ⟨w.heap.size,26,none⟩):=hR 19 19 22 _ rfl (by kernel_rfl)
    simp only [Act.eval,Array.getD_eq_getD_getElem?] at h22
    clear hR hB
    unfold execOp
    have e:w2.cell? ⟨w.heap.size,26,none⟩=some (.slice oa on oc):=hS2.2.cell 26
    simp [go_sem,h22,e])
  ·exact CalmOp.call 21 24 (.int .i64 (fo (fun l=>fo dS l) op)) #[.slice oa on oc,.func (.func 111) #[] #[]] rfl rfl rfl rfl (fun b w2 hR hB hS2=>by
    have h23:b.eval (.tmp 23)=.slice oa on oc:=hR 20 20 23 _ rfl (by kernel_rfl)
    simp only [Act.eval,Array.getD_eq_getD_getElem?] at h23
    clear hR hB
    unfold execOp
    simp [go_sem,h23]) (fun w2 hS2=>(deepOpts (fun l=>fo dS l) oneOpt op _ (enters_of Tryz.func111 (by decide) rfl) (fun ⟨v,g,h,h2,_⟩=>by obtain ⟨a,c,rfl,_⟩:=h2.form;exact ⟨_,_,_,h⟩) (fun l hl _ _ u h=>optD (HOP.out l hl) h) ((HRO.out.len HON.out).up (Keep.below hS2.1)) (LsF.up (fun _ _=>oneOpt.up (Keep.below hS2.1)) _ HFO.out)).mono fun e w3 h=>⟨by rw [h.1],hS2.1.trans (h.2.mono hS2.1.size),hS2.2.belowAll h.2⟩)
  ·exact CalmOp.pure 22 25 (.int .i64 (max (max (max (max (max (max (fo dS bo) (fo dA es)) (dA e)) (fo dA rf.index)) (fo dG gs)) (dD d)) (fo (fun l=>fo dS l) op))) rfl rfl rfl rfl (fun b w2 hR hB hS2=>by
    have h5:b.eval (.tmp 5)=.int .i64 (fo dS bo):=hR 2 2 5 _ rfl (by kernel_rfl)
    have h8:b.eval (.tmp 8)=.int .i64 (fo dA es):=hR 5 5 8 _ rfl (by kernel_rfl)
    have h11:b.eval (.tmp 11)=.int .i64 (dA e):=hR 8 8 11 _ rfl (by kernel_rfl)
    have h15:b.eval (.tmp 15)=.int .i64 (fo dA rf.index):=hR 12 12 15 _ rfl (by kernel_rfl)
    have h18:b.eval (.tmp 18)=.int .i64 (fo dG gs):=hR 15 15 18 _ rfl (by kernel_rfl)
    have h21:b.eval (.tmp 21)=.int .i64 (dD d):=hR 18 18 21 _ rfl (by kernel_rfl)
    have h24:b.eval (.tmp 24)=.int .i64 (fo (fun l=>fo dS l) op):=hR 21 21 24 _ rfl (by kernel_rfl)
    simp only [Act.eval,Array.getD_eq_getD_getElem?] at h5 h8 h11 h15 h18 h21 h24
    clear hR hB
    unfold execOp
    simp [go_sem,h5,h8,h11,h15,h18,h21,h24,run_max7])
  ·exact CalmOp.pure 23 26 (.int .i64 (up1 (max (max (max (max (max (max (fo dS bo) (fo dA es)) (dA e)) (fo dA rf.index)) (fo dG gs)) (dD d)) (fo (fun l=>fo dS l) op)))) rfl rfl rfl rfl (fun b w2 hR hB hS2=>by
    have h25:b.eval (.tmp 25)=.int .i64 (max (max (max (max (max (max (fo dS bo) (fo dA es)) (dA e)) (fo dA rf.index)) (fo dG gs)) (dD d)) (fo (fun l=>fo dS l) op)):=hR 22 22 25 _ rfl (by kernel_rfl)
    simp only [Act.eval,Array.getD_eq_getD_getElem?] at h25
    clear hR hB
    unfold execOp
    simp [go_sem,h25,up1])
  ·exact CalmOp.pure 24 2 (.int .i64 (up1 (max (max (max (max (max (max (fo dS bo) (fo dA es)) (dA e)) (fo dA rf.index)) (fo dG gs)) (dD d)) (fo (fun l=>fo dS l) op)))) rfl rfl rfl rfl (fun b w2 hR hB hS2=>by
    have h26:b.eval (.tmp 26)=.int .i64 (up1 (max (max (max (max (max (max (fo dS bo) (fo dA es)) (dA e)) (fo dA rf.index)) (fo dG gs)) (dD d)) (fo (fun l=>fo dS l) op))):=hR 23 23 26 _ rfl (by kernel_rfl)
    simp only [Act.eval,Array.getD_eq_getD_getElem?] at h26
    clear hR hB
    unfold execOp
    simp [go_sem,h26])
 simp only [puts,Act.put,List.setIfInBounds_toArray,List.set_cons_zero,List.set_cons_succ]
 go_wp2
 go_ret
 exact ⟨rfl,hS9.1⟩
mutual
theorem stmD:∀ (s:Stm) {P:Nat→Prop} {w:World} {c:List Value},StmF P w s c→Calls Tryz.prog 61 #[.agg c.toArray] w fun e w'=>e=.returned (.int .i64 (dS s))∧Below w.heap.size w w'
 | .mk k at_ nm tx n so ra ke rf e es gs d op bo=>fun h=>stmStep (stmsD bo) (optsD op) h
theorem stmsD:∀ (l:List Stm),∀ s ∈ l,∀ {P:Nat→Prop} {w:World} {c:List Value},StmF P w s c→Calls Tryz.prog 61 #[.agg c.toArray] w fun e w'=>e=.returned (.int .i64 (dS s))∧Below w.heap.size w w'
 | []=>fun a h=>by cases h
 | x :: l=>List.forall_mem_cons.2 ⟨stmD x,stmsD l⟩
theorem optsD:∀ (r:List (List Stm)),∀ l ∈ r,∀ s ∈ l,∀ {P:Nat→Prop} {w:World} {c:List Value},StmF P w s c→Calls Tryz.prog 61 #[.agg c.toArray] w fun e w'=>e=.returned (.int .i64 (dS s))∧Below w.heap.size w w'
 | []=>fun a h=>by cases h
 | x :: r=>List.forall_mem_cons.2 ⟨stmsD x,optsD r⟩
end
set_option maxHeartbeats 4000000 in
set_option maxRecDepth 1000000 in
theorem untD (u:Unt) {P:Nat→Prop} {w:World} {c:List Value} (h:UntF P w u c):Calls Tryz.prog 21 #[.agg c.toArray] w fun e w'=>e=.returned (.int .i64 (dU u))∧Below w.heap.size w w':=by
 obtain ⟨vn',cn,ci,ch,ck,ca,dv,vd,vb,rfl,h2,h3,⟨f4,h4,h4'⟩,⟨f5,h5,h5'⟩,⟨f6,h6,h6'⟩⟩:=h
 obtain ⟨na,nc,hx,_⟩:=h2.form
 subst hx
 obtain ⟨ea1,en1,ec1,ea2,en2,ec2,ea3,en3,ec3,ea4,en4,ec4,ea5,en5,ec5,rfl,rfl,rfl,rfl,rfl⟩:=h3.forms
 obtain ⟨va,vc,hx,_⟩:=h4.form
 subst hx
 obtain ⟨da,dc,hx,_⟩:=h5.form
 subst hx
 obtain ⟨ba,bc,hx,_⟩:=h6.form
 subst hx
 have H3:=Lib.hid h3
 have HDV:Hid (DvsV P w (.slice va u.decl.vars.length vc) u.decl.vars):=⟨f4,h4,h4'⟩
 have HRD:=Lib.hid h5
 have HFD:=Lib.hid h5'
 have HRB:=Lib.hid h6
 have HFB:=Lib.hid h6'.ls
 clear h2 h3 h4 h4' h5 h5' h6 h6'
 obtain ⟨nn,hnn⟩:∃ n,n=u.names.length:=⟨_,rfl⟩
 obtain ⟨vn,hvn⟩:∃ n,n=u.decl.vars.length:=⟨_,rfl⟩
 obtain ⟨dn,hdn⟩:∃ n,n=u.decls.length:=⟨_,rfl⟩
 obtain ⟨bn,hbn⟩:∃ n,n=u.body.length:=⟨_,rfl⟩
 rw [← hvn] at HDV
 rw [← hdn] at HRD
 rw [← hbn] at HRB
 have HDN:=Lib.hid hdn
 have HBN:=Lib.hid hbn
 rw [← hnn,← hvn,← hdn,← hbn]
 clear hnn hvn hdn hbn
 have hB0:Below w.heap.size w (w.alloc (.cells #[.int .i64 (u.kind:Int),.int .i64 (u.at_:Int),.string ⟨u.name.toArray⟩,.string ⟨u.text.toArray⟩,.slice na nn nc,.bool u.active,.int .i64 (u.count.kind:Int),.int .i64 u.count.n,.string ⟨u.count.name.toArray⟩,.string ⟨u.count.label.toArray⟩,.slice ea1 en1 ec1,.slice ea2 en2 ec2,.slice ea3 en3 ec3,.slice ea4 en4 ec4,.slice ea5 en5 ec5,.int .i64 u.decl.type,.string ⟨u.decl.named.toArray⟩,.slice va vn vc,.int .i64 (u.decl.at_:Int),.slice da dn dc,.slice ba bn bc] 54)):=(Below.refl _ _).alloc (Nat.le_refl _) _
 have HB0:=Lib.hid hB0
 have HH0:=Lib.hid (Holds.new w 54 #[.int .i64 (u.kind:Int),.int .i64 (u.at_:Int),.string ⟨u.name.toArray⟩,.string ⟨u.text.toArray⟩,.slice na nn nc,.bool u.active,.int .i64 (u.count.kind:Int),.int .i64 u.count.n,.string ⟨u.count.name.toArray⟩,.string ⟨u.count.label.toArray⟩,.slice ea1 en1 ec1,.slice ea2 en2 ec2,.slice ea3 en3 ec3,.slice ea4 en4 ec4,.slice ea5 en5 ec5,.int .i64 u.decl.type,.string ⟨u.decl.named.toArray⟩,.slice va vn vc,.int .i64 (u.decl.at_:Int),.slice da dn dc,.slice ba bn bc])
 clear hB0
 show Calls _ _ #[.agg #[.int .i64 (u.kind:Int),.int .i64 (u.at_:Int),.string ⟨u.name.toArray⟩,.string ⟨u.text.toArray⟩,.slice na nn nc,.bool u.active,.int .i64 (u.count.kind:Int),.int .i64 u.count.n,.string ⟨u.count.name.toArray⟩,.string ⟨u.count.label.toArray⟩,.slice ea1 en1 ec1,.slice ea2 en2 ec2,.slice ea3 en3 ec3,.slice ea4 en4 ec4,.slice ea5 en5 ec5,.int .i64 u.decl.type,.string ⟨u.decl.named.toArray⟩,.slice va vn vc,.int .i64 (u.decl.at_:Int),.slice da dn dc,.slice ba bn bc]] w _
 unfold dU
 go_enter Tryz.func21,Tryz.ntmps21
 go_wp2
 refine wp_region_puts (fun w2=>Below w.heap.size w w2∧Holds w2 w.heap.size 54 [.int .i64 (u.kind:Int),.int .i64 (u.at_:Int),.string ⟨u.name.toArray⟩,.string ⟨u.text.toArray⟩,.slice na nn nc,.bool u.active,.int .i64 (u.count.kind:Int),.int .i64 u.count.n,.string ⟨u.count.name.toArray⟩,.string ⟨u.count.label.toArray⟩,.slice ea1 en1 ec1,.slice ea2 en2 ec2,.slice ea3 en3 ec3,.slice ea4 en4 ec4,.slice ea5 en5 ec5,.int .i64 u.decl.type,.string ⟨u.decl.named.toArray⟩,.slice va vn vc,.int .i64 (u.decl.at_:Int),.slice da dn dc,.slice ba bn bc]) [(0,3,.pointer (some ⟨w.heap.size,6,none⟩)),(1,4,.agg #[.int .i64 (u.count.kind:Int),.int .i64 u.count.n,.string ⟨u.count.name.toArray⟩,.string ⟨u.count.label.toArray⟩,.slice ea1 en1 ec1,.slice ea2 en2 ec2,.slice ea3 en3 ec3,.slice ea4 en4 ec4,.slice ea5 en5 ec5]),(2,5,.int .i64 (dA u.count)),(3,6,.pointer (some ⟨w.heap.size,15,none⟩)),(4,7,.agg #[.int .i64 u.decl.type,.string ⟨u.decl.named.toArray⟩,.slice va vn vc,.int .i64 (u.decl.at_:Int)]),(5,8,.int .i64 (dD u.decl)),(6,9,.pointer (some ⟨w.heap.size,19,none⟩)),(7,10,.slice da dn dc),(8,11,.int .i64 (fo dD u.decls)),(9,12,.pointer (some ⟨w.heap.size,20,none⟩)),(10,13,.slice ba bn bc),(11,14,.int .i64 (fo dS u.body)),(12,15,.int .i64 (max (max (max (dA u.count) (dD u.decl)) (fo dD u.decls)) (fo dS u.body))),(13,2,.int .i64 (max (max (max (dA u.count) (dD u.decl)) (fo dD u.decls)) (fo dS u.body)))] 16 rfl (by kernel_rfl) (by kernel_rfl) (by kernel_rfl) ⟨HB0.out.drew,HH0.out⟩ (fun i hi=>?_) (fun w9 hS9=>?_)
 ·have hi2:i < 14:=hi
  clear hi
  have hi3:i=0∨i=1∨i=2∨i=3∨i=4∨i=5∨i=6∨i=7∨i=8∨i=9∨i=10∨i=11∨i=12∨i=13:=by omega
  clear hi2
  rcases hi3 with rfl | rfl | rfl | rfl | rfl | rfl | rfl | rfl | rfl | rfl | rfl | rfl | rfl | rfl
  ·exact CalmOp.pure 0 3 (.pointer (some ⟨w.heap.size,6,none⟩)) rfl rfl rfl rfl (fun b w2 hR hB hS2=>by
    have h1:b.eval (.tmp 1)=.pointer (some ⟨w.heap.size,0,none⟩):=(hB 1 (by decide) (by kernel_rfl) (by kernel_rfl)).trans rfl
    simp only [Act.eval,Array.getD_eq_getD_getElem?] at h1
    clear hR hB
    unfold execOp
    simp [go_sem,h1])
  ·exact CalmOp.pure 1 4 (.agg #[.int .i64 (u.count.kind:Int),.int .i64 u.count.n,.string ⟨u.count.name.toArray⟩,.string ⟨u.count.label.toArray⟩,.slice ea1 en1 ec1,.slice ea2 en2 ec2,.slice ea3 en3 ec3,.slice ea4 en4 ec4,.slice ea5 en5 ec5]) rfl rfl rfl rfl (fun b w2 hR hB hS2=>by
    have h3:b.eval (.tmp 3)=.pointer (some ⟨w.heap.size,6,none⟩):=hR 0 0 3 _ rfl (by kernel_rfl)
    clear hR hB
    have e:=run_loadAt_mid (P:=Tryz.prog) w2 w.heap.size 6 41 [.int .i64 (u.count.kind:Int),.int .i64 u.count.n,.string ⟨u.count.name.toArray⟩,.string ⟨u.count.label.toArray⟩,.slice ea1 en1 ec1,.slice ea2 en2 ec2,.slice ea3 en3 ec3,.slice ea4 en4 ec4,.slice ea5 en5 ec5] _ (hS2.2.range (n:=9) rfl) Tryz.underlying41 rfl sz_Ast
    show Sem.run Tryz.prog (do let v ← Instr.loadAt 41 (b.eval (.tmp 3));pure (Next.value v)) w2=_
    rw [h3,Sem.run_bind,e]
    rfl)
  ·exact CalmOp.call 2 5 (.int .i64 (dA u.count)) #[.agg #[.int .i64 (u.count.kind:Int),.int .i64 u.count.n,.string ⟨u.count.name.toArray⟩,.string ⟨u.count.label.toArray⟩,.slice ea1 en1 ec1,.slice ea2 en2 ec2,.slice ea3 en3 ec3,.slice ea4 en4 ec4,.slice ea5 en5 ec5]] rfl rfl rfl rfl (fun b w2 hR hB hS2=>by
    have h4:b.eval (.tmp 4)=.agg #[.int .i64 (u.count.kind:Int),.int .i64 u.count.n,.string ⟨u.count.name.toArray⟩,.string ⟨u.count.label.toArray⟩,.slice ea1 en1 ec1,.slice ea2 en2 ec2,.slice ea3 en3 ec3,.slice ea4 en4 ec4,.slice ea5 en5 ec5]:=hR 1 1 4 _ rfl (by kernel_rfl)
    simp only [Act.eval,Array.getD_eq_getD_getElem?] at h4
    clear hR hB
    unfold execOp
    simp [go_sem,h4]) (fun w2 hS2=>(show Calls _ _ #[.agg #[.int .i64 (u.count.kind:Int),.int .i64 u.count.n,.string ⟨u.count.name.toArray⟩,.string ⟨u.count.label.toArray⟩,.slice ea1 en1 ec1,.slice ea2 en2 ec2,.slice ea3 en3 ec3,.slice ea4 en4 ec4,.slice ea5 en5 ec5]] w2 _ from astD u.count (P:=P) (c:=[.int .i64 (u.count.kind:Int),.int .i64 u.count.n,.string ⟨u.count.name.toArray⟩,.string ⟨u.count.label.toArray⟩,.slice ea1 en1 ec1,.slice ea2 en2 ec2,.slice ea3 en3 ec3,.slice ea4 en4 ec4,.slice ea5 en5 ec5]) ⟨_,_,_,_,_,rfl,H3.out.up (Keep.below hS2.1)⟩).mono fun e w3 h=>⟨by rw [h.1],hS2.1.trans (h.2.mono hS2.1.size),hS2.2.belowAll h.2⟩)
  ·exact CalmOp.pure 3 6 (.pointer (some ⟨w.heap.size,15,none⟩)) rfl rfl rfl rfl (fun b w2 hR hB hS2=>by
    have h1:b.eval (.tmp 1)=.pointer (some ⟨w.heap.size,0,none⟩):=(hB 1 (by decide) (by kernel_rfl) (by kernel_rfl)).trans rfl
    simp only [Act.eval,Array.getD_eq_getD_getElem?] at h1
    clear hR hB
    unfold execOp
    simp [go_sem,h1])
  ·exact CalmOp.pure 4 7 (.agg #[.int .i64 u.decl.type,.string ⟨u.decl.named.toArray⟩,.slice va vn vc,.int .i64 (u.decl.at_:Int)]) rfl rfl rfl rfl (fun b w2 hR hB hS2=>by
    have h6:b.eval (.tmp 6)=.pointer (some ⟨w.heap.size,15,none⟩):=hR 3 3 6 _ rfl (by kernel_rfl)
    clear hR hB
    have e:=run_loadAt_mid (P:=Tryz.prog) w2 w.heap.size 15 50 [.int .i64 u.decl.type,.string ⟨u.decl.named.toArray⟩,.slice va vn vc,.int .i64 (u.decl.at_:Int)] _ (hS2.2.range (n:=4) rfl) Tryz.underlying50 rfl sz_Dcl
    show Sem.run Tryz.prog (do let v ← Instr.loadAt 50 (b.eval (.tmp 6));pure (Next.value v)) w2=_
    rw [h6,Sem.run_bind,e]
    rfl)
  ·exact CalmOp.call 5 8 (.int .i64 (dD u.decl)) #[.agg #[.int .i64 u.decl.type,.string ⟨u.decl.named.toArray⟩,.slice va vn vc,.int .i64 (u.decl.at_:Int)]] rfl rfl rfl rfl (fun b w2 hR hB hS2=>by
    have h7:b.eval (.tmp 7)=.agg #[.int .i64 u.decl.type,.string ⟨u.decl.named.toArray⟩,.slice va vn vc,.int .i64 (u.decl.at_:Int)]:=hR 4 4 7 _ rfl (by kernel_rfl)
    simp only [Act.eval,Array.getD_eq_getD_getElem?] at h7
    clear hR hB
    unfold execOp
    simp [go_sem,h7]) (fun w2 hS2=>(show Calls _ _ #[.agg #[.int .i64 u.decl.type,.string ⟨u.decl.named.toArray⟩,.slice va vn vc,.int .i64 (u.decl.at_:Int)]] w2 _ from dD_ u.decl (P:=P) (c:=[.int .i64 u.decl.type,.string ⟨u.decl.named.toArray⟩,.slice va vn vc,.int .i64 (u.decl.at_:Int)]) ⟨_,rfl,HDV.out.up (Keep.below hS2.1)⟩).mono fun e w3 h=>⟨by rw [h.1],hS2.1.trans (h.2.mono hS2.1.size),hS2.2.belowAll h.2⟩)
  ·exact CalmOp.pure 6 9 (.pointer (some ⟨w.heap.size,19,none⟩)) rfl rfl rfl rfl (fun b w2 hR hB hS2=>by
    have h1:b.eval (.tmp 1)=.pointer (some ⟨w.heap.size,0,none⟩):=(hB 1 (by decide) (by kernel_rfl) (by kernel_rfl)).trans rfl
    simp only [Act.eval,Array.getD_eq_getD_getElem?] at h1
    clear hR hB
    unfold execOp
    simp [go_sem,h1])
  ·exact CalmOp.pure 7 10 (.slice da dn dc) rfl rfl rfl rfl (fun b w2 hR hB hS2=>by
    have h9:b.eval (.tmp 9)=.pointer (some ⟨w.heap.size,19,none⟩):=hR 6 6 9 _ rfl (by kernel_rfl)
    simp only [Act.eval,Array.getD_eq_getD_getElem?] at h9
    clear hR hB
    unfold execOp
    have e:w2.cell? ⟨w.heap.size,19,none⟩=some (.slice da dn dc):=hS2.2.cell 19
    simp [go_sem,h9,e])
  ·exact CalmOp.call 8 11 (.int .i64 (fo dD u.decls)) #[.slice da dn dc,.func (.func 58) #[] #[]] rfl rfl rfl rfl (fun b w2 hR hB hS2=>by
    have h10:b.eval (.tmp 10)=.slice da dn dc:=hR 7 7 10 _ rfl (by kernel_rfl)
    simp only [Act.eval,Array.getD_eq_getD_getElem?] at h10
    clear hR hB
    unfold execOp
    simp [go_sem,h10]) (fun w2 hS2=>(deepDcl dD oneDcl u.decls _ (enters_of Tryz.func58 (by decide) rfl) (fun a ha _ _ c h=>dD_ a h) ((HRD.out.len HDN.out).up (Keep.below hS2.1)) (LsF.up (fun _ _=>oneDcl.up (Keep.below hS2.1)) _ HFD.out)).mono fun e w3 h=>⟨by rw [h.1],hS2.1.trans (h.2.mono hS2.1.size),hS2.2.belowAll h.2⟩)
  ·exact CalmOp.pure 9 12 (.pointer (some ⟨w.heap.size,20,none⟩)) rfl rfl rfl rfl (fun b w2 hR hB hS2=>by
    have h1:b.eval (.tmp 1)=.pointer (some ⟨w.heap.size,0,none⟩):=(hB 1 (by decide) (by kernel_rfl) (by kernel_rfl)).trans rfl
    simp only [Act.eval,Array.getD_eq_getD_getElem?] at h1
    clear hR hB
    unfold execOp
    simp [go_sem,h1])
  ·exact CalmOp.pure 10 13 (.slice ba bn bc) rfl rfl rfl rfl (fun b w2 hR hB hS2=>by
    have h12:b.eval (.tmp 12)=.pointer (some ⟨w.heap.size,20,none⟩):=hR 9 9 12 _ rfl (by kernel_rfl)
    simp only [Act.eval,Array.getD_eq_getD_getElem?] at h12
    clear hR hB
    unfold execOp
    have e:w2.cell? ⟨w.heap.size,20,none⟩=some (.slice ba bn bc):=hS2.2.cell 20
    simp [go_sem,h12,e])
  ·exact CalmOp.call 11 14 (.int .i64 (fo dS u.body)) #[.slice ba bn bc,.func (.func 61) #[] #[]] rfl rfl rfl rfl (fun b w2 hR hB hS2=>by
    have h13:b.eval (.tmp 13)=.slice ba bn bc:=hR 10 10 13 _ rfl (by kernel_rfl)
    simp only [Act.eval,Array.getD_eq_getD_getElem?] at h13
    clear hR hB
    unfold execOp
    simp [go_sem,h13]) (fun w2 hS2=>(deepStm dS oneStm u.body _ (enters_of Tryz.func61 (by decide) rfl) (fun a ha _ _ c h=>stmD a h) ((HRB.out.len HBN.out).up (Keep.below hS2.1)) (LsF.up (fun _ _=>oneStm.up (Keep.below hS2.1)) _ HFB.out)).mono fun e w3 h=>⟨by rw [h.1],hS2.1.trans (h.2.mono hS2.1.size),hS2.2.belowAll h.2⟩)
  ·exact CalmOp.pure 12 15 (.int .i64 (max (max (max (dA u.count) (dD u.decl)) (fo dD u.decls)) (fo dS u.body))) rfl rfl rfl rfl (fun b w2 hR hB hS2=>by
    have h5:b.eval (.tmp 5)=.int .i64 (dA u.count):=hR 2 2 5 _ rfl (by kernel_rfl)
    have h8:b.eval (.tmp 8)=.int .i64 (dD u.decl):=hR 5 5 8 _ rfl (by kernel_rfl)
    have h11:b.eval (.tmp 11)=.int .i64 (fo dD u.decls):=hR 8 8 11 _ rfl (by kernel_rfl)
    have h14:b.eval (.tmp 14)=.int .i64 (fo dS u.body):=hR 11 11 14 _ rfl (by kernel_rfl)
    simp only [Act.eval,Array.getD_eq_getD_getElem?] at h5 h8 h11 h14
    clear hR hB
    unfold execOp
    simp [go_sem,h5,h8,h11,h14,run_max4])
  ·exact CalmOp.pure 13 2 (.int .i64 (max (max (max (dA u.count) (dD u.decl)) (fo dD u.decls)) (fo dS u.body))) rfl rfl rfl rfl (fun b w2 hR hB hS2=>by
    have h15:b.eval (.tmp 15)=.int .i64 (max (max (max (dA u.count) (dD u.decl)) (fo dD u.decls)) (fo dS u.body)):=hR 12 12 15 _ rfl (by kernel_rfl)
    simp only [Act.eval,Array.getD_eq_getD_getElem?] at h15
    clear hR hB
    unfold execOp
    simp [go_sem,h15])
 simp only [puts,Act.put,List.setIfInBounds_toArray,List.set_cons_zero,List.set_cons_succ]
 go_wp2
 go_ret
 exact ⟨rfl,hS9.1⟩
end Go.Proofs.YtpoghableadkcaaGreatDoor
