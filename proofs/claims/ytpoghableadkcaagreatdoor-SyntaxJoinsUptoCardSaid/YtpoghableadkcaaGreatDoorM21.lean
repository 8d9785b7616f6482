/- SaT, SaA, joined. -/
import Derived.Test.YtpoghableadkcaaGreatDoorM12
import Derived.Test.YtpoghableadkcaaGreatDoorM18
import Derived.Test.YtpoghableadkcaaGreatDoorDep
import Derived.Deep.LoopGhost
section
/- The document's comparisons, of things that are the same: texts. -/
namespace Go.Proofs.YtpoghableadkcaaGreatDoor
open Go.RowKit
set_option linter.unusedVariables false
set_option linter.unusedSimpArgs false

/-- A row's cells at index i. -/
theorem RowL.at1 {P:Nat→Prop} {w:World} {v:Value} {n i:Nat} {f:List Value} (h:RowL P w 1 v n f) (hi:i < n):∃ g o cap x,v=.slice (some ⟨g,o,none⟩) n cap∧f[i]?=some x∧w.cell? ⟨g,o + i,none⟩=some x:=by
 obtain ⟨a,cap,h1,h2,h3,h4,h5,h6⟩:=h
 obtain ⟨g,o,cs,t,k1,k2,k3,k4⟩:=h6 (by omega)
 subst k1
 have hl:i < f.length:=by omega
 exact ⟨g,o,cap,f[i],h1,List.getElem?_eq_getElem hl,by rw [k3.cell,k4 i (by omega),List.getElem?_eq_getElem hl]⟩
set_option maxHeartbeats 1600000 in
set_option maxRecDepth 100000 in
theorem textsFn {l:List Bs} {P Q:Nat→Prop} {w:World} {u v:Value} (h1:RowL P w 1 u l.length (l.map strV)) (h2:RowL Q w 1 v l.length (l.map strV)):
  Calls Tryz.prog 22 #[u,v] w fun e w'=>e=.returned (.bool true)∧Below w.heap.size w w':=by
 obtain ⟨ua,uc,rfl,hu1,hu2,_⟩:=h1.form
 obtain ⟨va,vc,rfl,hv1,hv2,_⟩:=h2.form
 obtain ⟨N,hN⟩:∃ N,l.length=N:=⟨_,rfl⟩
 rw [hN] at h1 h2 hu1 hv1 ⊢
 have H1:=Lib.hid h1
 have H2:=Lib.hid h2
 have HN:=Lib.hid hN
 clear h1 h2 hN
 go_enter Tryz.func22,Tryz.ntmps22
 go_wp2
 go_loopw [5] (fun x wx=>∃ i:Nat,x=.int .i64 (i:Int)∧i ≤ N∧Hid (Below w.heap.size w wx)) (fun x _=>N - (intOf x).toNat)
 case atStart=>exact ⟨0,rfl,Nat.zero_le _,Below.refl _ _⟩
 case round=>
  obtain ⟨i,hx,hi,HB⟩:=hrel
  subst hx
  by_cases hin:i < N
  ·have hi2:(i:Int) < (N:Int):=by omega
   have hi0:(0:Int) ≤ (i:Int):=by omega
   have hwi:IntKind.i64.wrap (i:Int)=(i:Int):=by rw [IntKind.wrap_i64];omega
   obtain ⟨g1,o1,k1,x1,he1,hf1,hc1⟩:=(H1.out.up (Keep.below HB.out)).at1 hin
   obtain ⟨g2,o2,k2,x2,he2,hf2,hc2⟩:=(H2.out.up (Keep.below HB.out)).at1 hin
   injection he1 with he1 _ he1'
   subst he1 he1'
   injection he2 with he2 _ he2'
   subst he2 he2'
   rw [hf1] at hf2
   injection hf2 with hf2
   subst hf2
   have hil:i < l.length:=by rw [HN.out];exact hin
   rw [List.getElem?_map,List.getElem?_eq_getElem hil] at hf1
   injection hf1 with hf1
   subst hf1
   obtain ⟨s,hs⟩:∃ s,l[i]=s:=⟨_,rfl⟩
   rw [hs] at hc1 hc2
   unfold strV at hc1 hc2
   clear hs
   go_wp2
   go_quiet (fail)
   have HB2:=Lib.hid (show Below w.heap.size w (wr.drewN nq) from ⟨HB.out.os,HB.out.tape,HB.out.output,HB.out.size,HB.out.block⟩)
   go_wp2
   refine ⟨⟨i + 1,by simp,by omega,HB2⟩,?_⟩
   simp [intOf]
   omega
  ·have hi3:i=N:=by omega
   subst hi3
   go_wp2
   go_ret
   exact ⟨rfl,HB.out⟩
end Go.Proofs.YtpoghableadkcaaGreatDoor
end
section
/- The document's comparison of expressions that are the same (printed by mksame.py). -/
namespace Go.Proofs.YtpoghableadkcaaGreatDoor
open Go.RowKit
set_option linter.unusedVariables false
set_option linter.unusedSimpArgs false

theorem RfF.up' {P:Nat→Prop} {w w':World} {r:Rf} {vn vi vh:Value} (hu:Keep P w w') (h:RfF P w r vn vi vh):RfF P w' r vn vi vh:=h.up hu
theorem range_below {w w':World} {b o:Nat} {cs:List Value} (h:w.rangeAt b o cs) (hb:Below w.heap.size w w'):w'.rangeAt b o cs:=fun j v hj=>by
 have h1:=h j v hj
 have h2:=World.block_lt_of_cell? w _ h1
 rw [hb.cell h2];exact h1
/-- An element of a row. -/
theorem RowL.atN {A:Type} {G:(Nat→Prop)→World→A→List Value→Prop} {n:Nat} (H:One G n) {P:Nat→Prop} {w:World} {v:Value} {l:List A} {f:List Value} {i:Nat} (h:RowL P w n v l.length f) (hf:LsF G P w l f) (hi:i < l.length):
  ∃ g o cap c,v=.slice (some ⟨g,o,none⟩) l.length cap∧G P w l[i] c∧w.rangeAt g (o + i * n) c:=by
 obtain ⟨a,cap,h1,h2,h3,h4,h5,h6⟩:=h
 obtain ⟨g,o,cs,t,k1,k2,k3,k4⟩:=h6 (by omega)
 subst k1
 obtain ⟨c,hG,hc⟩:=LsF.at (fun a c=>H.len) hi hf
 refine ⟨g,o,cap,c,h1,hG,fun j u hj=>?_⟩
 have hj2:j < n:=by have:=(List.getElem?_eq_some_iff.1 hj).1;rw [H.len hG] at this;exact this
 have hm:i * n + j < l.length * n:=by
  have:(i + 1) * n ≤ l.length * n:=Nat.mul_le_mul_right _ hi
  rw [Nat.succ_mul] at this
  omega
 rw [k3.cell,Nat.add_assoc,k4 _ hm,hc j hj2]
 exact hj
def SameD (a:Ast):Prop:=∀ {P Q:Nat→Prop} {w:World} {c d:List Value},AstG P w a c→AstG Q w a d→Calls Tryz.prog 12 #[.agg c.toArray,.agg d.toArray] w fun e w'=>e=.returned (.bool true)∧Below w.heap.size w w'
set_option maxHeartbeats 4000000 in
set_option maxRecDepth 1000000 in
theorem sameAstsFn {l:List Ast} (hl:∀ a ∈ l,SameD a) {P Q:Nat→Prop} {w:World} {u v:Value} {f g:List Value} (h1:RowL P w 9 u l.length f) (g1:LsF AstG P w l f) (h2:RowL Q w 9 v l.length g) (g2:LsF AstG Q w l g):
  Calls Tryz.prog 33 #[u,v] w fun e w'=>e=.returned (.bool true)∧Below w.heap.size w w':=by
 obtain ⟨ua,uc,rfl,hu1,hu2,_⟩:=h1.form
 obtain ⟨va,vc,rfl,hv1,hv2,_⟩:=h2.form
 obtain ⟨N,hN⟩:∃ N,l.length=N:=⟨_,rfl⟩
 have H1:=Lib.hid h1
 have H2:=Lib.hid h2
 have G1:=Lib.hid g1
 have G2:=Lib.hid g2
 have HH:=Lib.hid hl
 have HN:=Lib.hid hN
 clear h1 h2 g1 g2 hl
 rw [hN] at hu1 hv1 ⊢
 clear hN
 go_enter Tryz.func33,Tryz.ntmps33
 go_wp2
 go_loopw [5] (fun x wx=>∃ i:Nat,x=.int .i64 (i:Int)∧i ≤ N∧Hid (Below w.heap.size w wx)) (fun x _=>N - (intOf x).toNat)
 case atStart=>exact ⟨0,rfl,Nat.zero_le _,Below.refl _ _⟩
 case round=>
  obtain ⟨i,hx,hi,HB⟩:=hrel
  subst hx
  by_cases hin:i < N
  ·have hi2:(i:Int) < (N:Int):=by omega
   have hi0:(0:Int) ≤ (i:Int):=by omega
   have hwi:IntKind.i64.wrap (i:Int)=(i:Int):=by rw [IntKind.wrap_i64];omega
   have hwi1:IntKind.i64.wrap ((i:Int) + 1)=(i:Int) + 1:=by rw [IntKind.wrap_i64];omega
   have hil:i < l.length:=by rw [HN.out];exact hin
   obtain ⟨gb,ob,cb,c,he1,hG1,hr1⟩:=(H1.out.up (Keep.below HB.out)).atN oneAst (LsF.up (fun _ _=>oneAst.up (Keep.below HB.out)) _ G1.out) hil
   obtain ⟨gc,oc,cc,d,he2,hG2,hr2⟩:=(H2.out.up (Keep.below HB.out)).atN oneAst (LsF.up (fun _ _=>oneAst.up (Keep.below HB.out)) _ G2.out) hil
   injection he1 with he1 _ he1'
   subst he1 he1'
   injection he2 with he2 _ he2'
   subst he2 he2'
   have hs1:(Tryz.prog.info? 41).map (·.size)=some c.length:=by rw [oneAst.len hG1];exact sz_Ast
   have hs2:(Tryz.prog.info? 41).map (·.size)=some d.length:=by rw [oneAst.len hG2];exact sz_Ast
   have HR1:=Lib.hid hr1
   have HR2:=Lib.hid hr2
   have HG1:=Lib.hid hG1
   have HG2:=Lib.hid hG2
   clear hr1 hr2 hG1 hG2
   go_wp2
   refine wp_region_puts (fun w2=>Below w.heap.size w w2∧Below wr.heap.size wr w2) [(0,18,.slice (some ⟨gb,ob,none⟩) N uc),(1,19,.int .i64 (i:Int)),(2,20,.pointer (some ⟨gb,ob + i * 9,none⟩)),(3,21,.agg c.toArray),(4,22,.slice (some ⟨gc,oc,none⟩) N vc),(5,23,.int .i64 (i:Int)),(6,24,.pointer (some ⟨gc,oc + i * 9,none⟩)),(7,25,.agg d.toArray),(8,26,.bool true),(9,6,.bool true)] 29 rfl (by kernel_rfl) (by kernel_rfl) (by kernel_rfl) ⟨⟨HB.out.os,HB.out.tape,HB.out.output,HB.out.size,HB.out.block⟩,⟨rfl,rfl,rfl,Nat.le_refl _,fun _ _=>rfl⟩⟩ (fun i hi=>?_) (fun w9 hS9=>?_)
   ·have hi2:i < 10:=hi
    clear hi
    have hi3:i=0∨i=1∨i=2∨i=3∨i=4∨i=5∨i=6∨i=7∨i=8∨i=9:=by omega
    clear hi2
    rcases hi3 with rfl | rfl | rfl | rfl | rfl | rfl | rfl | rfl | rfl | rfl
    ·exact CalmOp.pure 0 18 (.slice (some ⟨gb,ob,none⟩) N uc) rfl rfl rfl rfl (fun b w2 hR hB hS2=>by
      have h0:b.eval (.tmp 0)=.slice (some ⟨gb,ob,none⟩) N uc:=(hB 0 (by decide) (by kernel_rfl) (by kernel_rfl)).trans rfl
      simp only [Act.eval,Array.getD_eq_getD_getElem?] at h0
      clear hR hB
      unfold execOp
      simp [go_sem,h0])
    ·exact CalmOp.pure 1 19 (.int .i64 (i:Int)) rfl rfl rfl rfl (fun b w2 hR hB hS2=>by
      have h5:b.eval (.tmp 5)=.int .i64 (i:Int):=(hB 5 (by decide) (by kernel_rfl) (by kernel_rfl)).trans rfl
      simp only [Act.eval,Array.getD_eq_getD_getElem?] at h5
      clear hR hB
      unfold execOp
      simp [go_sem,h5])
    ·exact CalmOp.pure 2 20 (.pointer (some ⟨gb,ob + i * 9,none⟩)) rfl rfl rfl rfl (fun b w2 hR hB hS2=>by
      have h18:b.eval (.tmp 18)=.slice (some ⟨gb,ob,none⟩) N uc:=hR 0 0 18 _ rfl (by kernel_rfl)
      have h19:b.eval (.tmp 19)=.int .i64 (i:Int):=hR 1 1 19 _ rfl (by kernel_rfl)
      simp only [Act.eval,Array.getD_eq_getD_getElem?] at h18 h19
      clear hR hB
      unfold execOp
      simp [go_sem,h18,h19,hi0,hi2,hwi])
    ·exact CalmOp.pure 3 21 (.agg c.toArray) rfl rfl rfl rfl (fun b w2 hR hB hS2=>by
      have h20:b.eval (.tmp 20)=.pointer (some ⟨gb,ob + i * 9,none⟩):=hR 2 2 20 _ rfl (by kernel_rfl)
      clear hR hB
      have e:=run_loadAt_mid (P:=Tryz.prog) w2 _ _ 41 _ _ (range_below HR1.out hS2.2) Tryz.underlying41 rfl hs1
      show Sem.run Tryz.prog (do let v ← Instr.loadAt 41 (b.eval (.tmp 20));pure (Next.value v)) w2=_
      rw [h20,Sem.run_bind,e]
      rfl)
    ·exact CalmOp.pure 4 22 (.slice (some ⟨gc,oc,none⟩) N vc) rfl rfl rfl rfl (fun b w2 hR hB hS2=>by
      have h1:b.eval (.tmp 1)=.slice (some ⟨gc,oc,none⟩) N vc:=(hB 1 (by decide) (by kernel_rfl) (by kernel_rfl)).trans rfl
      simp only [Act.eval,Array.getD_eq_getD_getElem?] at h1
      clear hR hB
      unfold execOp
      simp [go_sem,h1])
    ·exact CalmOp.pure 5 23 (.int .i64 (i:Int)) rfl rfl rfl rfl (fun b w2 hR hB hS2=>by
      have h5:b.eval (.tmp 5)=.int .i64 (i:Int):=(hB 5 (by decide) (by kernel_rfl) (by kernel_rfl)).trans rfl
      simp only [Act.eval,Array.getD_eq_getD_getElem?] at h5
      clear hR hB
      unfold execOp
      simp [go_sem,h5])
    ·exact CalmOp.pure 6 24 (.pointer (some ⟨gc,oc + i * 9,none⟩)) rfl rfl rfl rfl (fun b w2 hR hB hS2=>by
      have h22:b.eval (.tmp 22)=.slice (some ⟨gc,oc,none⟩) N vc:=hR 4 4 22 _ rfl (by kernel_rfl)
      have h23:b.eval (.tmp 23)=.int .i64 (i:Int):=hR 5 5 23 _ rfl (by kernel_rfl)
      simp only [Act.eval,Array.getD_eq_getD_getElem?] at h22 h23
      clear hR hB
      unfold execOp
      simp [go_sem,h22,h23,hi0,hi2,hwi])
    ·exact CalmOp.pure 7 25 (.agg d.toArray) rfl rfl rfl rfl (fun b w2 hR hB hS2=>by
      have h24:b.eval (.tmp 24)=.pointer (some ⟨gc,oc + i * 9,none⟩):=hR 6 6 24 _ rfl (by kernel_rfl)
      clear hR hB
      have e:=run_loadAt_mid (P:=Tryz.prog) w2 _ _ 41 _ _ (range_below HR2.out hS2.2) Tryz.underlying41 rfl hs2
      show Sem.run Tryz.prog (do let v ← Instr.loadAt 41 (b.eval (.tmp 24));pure (Next.value v)) w2=_
      rw [h24,Sem.run_bind,e]
      rfl)
    ·exact CalmOp.call 8 26 (.bool true) #[.agg c.toArray,.agg d.toArray] rfl rfl rfl rfl (fun b w2 hR hB hS2=>by
      have h21:b.eval (.tmp 21)=.agg c.toArray:=hR 3 3 21 _ rfl (by kernel_rfl)
      have h25:b.eval (.tmp 25)=.agg d.toArray:=hR 7 7 25 _ rfl (by kernel_rfl)
      simp only [Act.eval,Array.getD_eq_getD_getElem?] at h21 h25
      clear hR hB
      unfold execOp
      simp [go_sem,h21,h25]) (fun w2 hS2=>((HH.out l[i] (List.getElem_mem hil) (oneAst.up (Keep.below hS2.2) HG1.out) (oneAst.up (Keep.below hS2.2) HG2.out))).mono fun e w3 h=>⟨by rw [h.1],hS2.1.trans (h.2.mono hS2.1.size),hS2.2.trans (h.2.mono hS2.2.size)⟩)
    ·exact CalmOp.pure 9 6 (.bool true) rfl rfl rfl rfl (fun b w2 hR hB hS2=>by
      have h26:b.eval (.tmp 26)=.bool true:=hR 8 8 26 _ rfl (by kernel_rfl)
      simp only [Act.eval,Array.getD_eq_getD_getElem?] at h26
      clear hR hB
      unfold execOp
      simp [go_sem,h26])
   simp only [puts,Act.put,List.setIfInBounds_toArray,List.set_cons_zero,List.set_cons_succ]
   go_wp2
   refine ⟨⟨i + 1,by simp,by omega,hS9.1⟩,?_⟩
   simp [intOf]
   omega
  ·have hi3:i=N:=by omega
   subst hi3
   go_wp2
   go_ret
   exact ⟨rfl,HB.out⟩
set_option maxHeartbeats 4000000 in
set_option maxRecDepth 1000000 in
theorem sub_range {w:World} {b o:Nat} {x y:Value} {r:List Value} (h:w.rangeAt b o (x :: y :: r)):w.rangeAt b (o + 2) r:=fun j v hj=>by
 have:=h (j + 2) v (by simpa using hj)
 rwa [show o + (j + 2)=o + 2 + j by omega] at this
theorem sameArgsFn {l:List Arg} (hl:∀ m a e,Arg.mk m a e ∈ l→SameD e) {P Q:Nat→Prop} {w:World} {u v:Value} {f g:List Value} (h1:RowL P w 11 u l.length f) (g1:LsF ArgG P w l f) (h2:RowL Q w 11 v l.length g) (g2:LsF ArgG Q w l g):
  Calls Tryz.prog 34 #[u,v] w fun e w'=>e=.returned (.bool true)∧Below w.heap.size w w':=by
 obtain ⟨ua,uc,rfl,hu1,hu2,_⟩:=h1.form
 obtain ⟨va,vc,rfl,hv1,hv2,_⟩:=h2.form
 obtain ⟨N,hN⟩:∃ N,l.length=N:=⟨_,rfl⟩
 have H1:=Lib.hid h1
 have H2:=Lib.hid h2
 have G1:=Lib.hid g1
 have G2:=Lib.hid g2
 have HH:=Lib.hid hl
 have HN:=Lib.hid hN
 clear h1 h2 g1 g2 hl
 rw [hN] at hu1 hv1 ⊢
 clear hN
 go_enter Tryz.func34,Tryz.ntmps34
 go_wp2
 go_loopw [5] (fun x wx=>∃ i:Nat,x=.int .i64 (i:Int)∧i ≤ N∧Hid (Below w.heap.size w wx)) (fun x _=>N - (intOf x).toNat)
 case atStart=>exact ⟨0,rfl,Nat.zero_le _,Below.refl _ _⟩
 case round=>
  obtain ⟨i,hx,hi,HB⟩:=hrel
  subst hx
  by_cases hin:i < N
  ·have hi2:(i:Int) < (N:Int):=by omega
   have hi0:(0:Int) ≤ (i:Int):=by omega
   have hwi:IntKind.i64.wrap (i:Int)=(i:Int):=by rw [IntKind.wrap_i64];omega
   have hwi1:IntKind.i64.wrap ((i:Int) + 1)=(i:Int) + 1:=by rw [IntKind.wrap_i64];omega
   have hil:i < l.length:=by rw [HN.out];exact hin
   obtain ⟨gb,ob,cb,c,he1,hG1,hr1⟩:=(H1.out.up (Keep.below HB.out)).atN oneArgG (LsF.up (fun _ _=>oneArgG.up (Keep.below HB.out)) _ G1.out) hil
   obtain ⟨gc,oc,cc,d,he2,hG2,hr2⟩:=(H2.out.up (Keep.below HB.out)).atN oneArgG (LsF.up (fun _ _=>oneArgG.up (Keep.below HB.out)) _ G2.out) hil
   injection he1 with he1 _ he1'
   subst he1 he1'
   injection he2 with he2 _ he2'
   subst he2 he2'
   have hmem:l[i] ∈ l:=List.getElem_mem hil
   obtain ⟨x,hx⟩:∃ x,l[i]=x:=⟨_,rfl⟩
   rw [hx] at hG1 hG2 hmem
   cases x with
   | mk m any e=>
    unfold ArgG at hG1 hG2
    rw [ArgF] at hG1 hG2
    obtain ⟨vn,vi,vh,vk,va,rfl,hf1⟩:=hG1
    obtain ⟨un,ui,uh,uk,ua',rfl,hf2⟩:=hG2
    obtain ⟨xa1,xn1,xc1,xa2,xn2,xc2,xa3,xn3,xc3,xa4,xn4,xc4,xa5,xn5,xc5,rfl,rfl,rfl,rfl,rfl⟩:=hf1.forms
    obtain ⟨ya1,yn1,yc1,ya2,yn2,yc2,ya3,yn3,yc3,ya4,yn4,yc4,ya5,yn5,yc5,rfl,rfl,rfl,rfl,rfl⟩:=hf2.forms
    have HD:Hid (SameD e):=by
     show SameD e
     intro P Q w c d h1 h2
     exact HH.out m any e hmem h1 h2
    have hm1:wr.cell? ⟨gb,ob + i * 11,none⟩=some (.bool m):=hr1 0 _ rfl
    have hm2:wr.cell? ⟨gc,oc + i * 11,none⟩=some (.bool m):=hr2 0 _ rfl
    have ha1:wr.cell? ⟨gb,ob + i * 11 + 1,none⟩=some (.bool any):=hr1 1 _ rfl
    have ha2:wr.cell? ⟨gc,oc + i * 11 + 1,none⟩=some (.bool any):=hr2 1 _ rfl
    have HM:=Lib.hid (And.intro (And.intro hm1 hm2) (And.intro ha1 ha2))
    have HR1:=Lib.hid (sub_range hr1)
    have HR2:=Lib.hid (sub_range hr2)
    have HF1:=Lib.hid hf1
    have HF2:=Lib.hid hf2
    clear hr1 hr2 hf1 hf2 hm1 hm2 ha1 ha2 hmem hx
    go_wp2
    refine wp_region_puts (fun w2=>Below w.heap.size w w2∧Below wr.heap.size wr w2) [(0,18,.slice (some ⟨gb,ob,none⟩) N uc),(1,19,.int .i64 (i:Int)),(2,20,.pointer (some ⟨gb,ob + i * 11,none⟩)),(3,21,.pointer (some ⟨gb,ob + i * 11 + 2,none⟩)),(4,22,.agg #[.int .i64 (e.kind:Int),.int .i64 e.n,.string ⟨e.name.toArray⟩,.string ⟨e.label.toArray⟩,.slice xa1 xn1 xc1,.slice xa2 xn2 xc2,.slice xa3 xn3 xc3,.slice xa4 xn4 xc4,.slice xa5 xn5 xc5]),(5,23,.slice (some ⟨gc,oc,none⟩) N vc),(6,24,.int .i64 (i:Int)),(7,25,.pointer (some ⟨gc,oc + i * 11,none⟩)),(8,26,.pointer (some ⟨gc,oc + i * 11 + 2,none⟩)),(9,27,.agg #[.int .i64 (e.kind:Int),.int .i64 e.n,.string ⟨e.name.toArray⟩,.string ⟨e.label.toArray⟩,.slice ya1 yn1 yc1,.slice ya2 yn2 yc2,.slice ya3 yn3 yc3,.slice ya4 yn4 yc4,.slice ya5 yn5 yc5]),(10,28,.bool true),(11,6,.bool true)] 57 rfl (by kernel_rfl) (by kernel_rfl) (by kernel_rfl) ⟨⟨HB.out.os,HB.out.tape,HB.out.output,HB.out.size,HB.out.block⟩,⟨rfl,rfl,rfl,Nat.le_refl _,fun _ _=>rfl⟩⟩ (fun i hi=>?_) (fun w9 hS9=>?_)
    ·have hi2:i < 12:=hi
     clear hi
     have hi3:i=0∨i=1∨i=2∨i=3∨i=4∨i=5∨i=6∨i=7∨i=8∨i=9∨i=10∨i=11:=by omega
     clear hi2
     rcases hi3 with rfl | rfl | rfl | rfl | rfl | rfl | rfl | rfl | rfl | rfl | rfl | rfl
     ·exact CalmOp.pure 0 18 (.slice (some ⟨gb,ob,none⟩) N uc) rfl rfl rfl rfl (fun b w2 hR hB hS2=>by
       have h0:b.eval (.tmp 0)=.slice (some ⟨gb,ob,none⟩) N uc:=(hB 0 (by decide) (by kernel_rfl) (by kernel_rfl)).trans rfl
       simp only [Act.eval,Array.getD_eq_getD_getElem?] at h0
       clear hR hB
       unfold execOp
       simp [go_sem,h0])
     ·exact CalmOp.pure 1 19 (.int .i64 (i:Int)) rfl rfl rfl rfl (fun b w2 hR hB hS2=>by
       have h5:b.eval (.tmp 5)=.int .i64 (i:Int):=(hB 5 (by decide) (by kernel_rfl) (by kernel_rfl)).trans rfl
       simp only [Act.eval,Array.getD_eq_getD_getElem?] at h5
       clear hR hB
       unfold execOp
       simp [go_sem,h5])
     ·exact CalmOp.pure 2 20 (.pointer (some ⟨gb,ob + i * 11,none⟩)) rfl rfl rfl rfl (fun b w2 hR hB hS2=>by
       have h18:b.eval (.tmp 18)=.slice (some ⟨gb,ob,none⟩) N uc:=hR 0 0 18 _ rfl (by kernel_rfl)
       have h19:b.eval (.tmp 19)=.int .i64 (i:Int):=hR 1 1 19 _ rfl (by kernel_rfl)
       simp only [Act.eval,Array.getD_eq_getD_getElem?] at h18 h19
       clear hR hB
       unfold execOp
       simp [go_sem,h18,h19,hi0,hi2,hwi])
     ·exact CalmOp.pure 3 21 (.pointer (some ⟨gb,ob + i * 11 + 2,none⟩)) rfl rfl rfl rfl (fun b w2 hR hB hS2=>by
       have h20:b.eval (.tmp 20)=.pointer (some ⟨gb,ob + i * 11,none⟩):=hR 2 2 20 _ rfl (by kernel_rfl)
       simp only [Act.eval,Array.getD_eq_getD_getElem?] at h20
       clear hR hB
       unfold execOp
       simp [go_sem,h20])
     ·exact CalmOp.pure 4 22 (.agg #[.int .i64 (e.kind:Int),.int .i64 e.n,.string ⟨e.name.toArray⟩,.string ⟨e.label.toArray⟩,.slice xa1 xn1 xc1,.slice xa2 xn2 xc2,.slice xa3 xn3 xc3,.slice xa4 xn4 xc4,.slice xa5 xn5 xc5]) rfl rfl rfl rfl (fun b w2 hR hB hS2=>by
       have h21:b.eval (.tmp 21)=.pointer (some ⟨gb,ob + i * 11 + 2,none⟩):=hR 3 3 21 _ rfl (by kernel_rfl)
       clear hR hB
       have e:=run_loadAt_mid (P:=Tryz.prog) w2 _ _ 41 _ _ (range_below HR1.out hS2.2) Tryz.underlying41 rfl sz_Ast
       show Sem.run Tryz.prog (do let v ← Instr.loadAt 41 (b.eval (.tmp 21));pure (Next.value v)) w2=_
       rw [h21,Sem.run_bind,e]
       rfl)
     ·exact CalmOp.pure 5 23 (.slice (some ⟨gc,oc,none⟩) N vc) rfl rfl rfl rfl (fun b w2 hR hB hS2=>by
       have h1:b.eval (.tmp 1)=.slice (some ⟨gc,oc,none⟩) N vc:=(hB 1 (by decide) (by kernel_rfl) (by kernel_rfl)).trans rfl
       simp only [Act.eval,Array.getD_eq_getD_getElem?] at h1
       clear hR hB
       unfold execOp
       simp [go_sem,h1])
     ·exact CalmOp.pure 6 24 (.int .i64 (i:Int)) rfl rfl rfl rfl (fun b w2 hR hB hS2=>by
       have h5:b.eval (.tmp 5)=.int .i64 (i:Int):=(hB 5 (by decide) (by kernel_rfl) (by kernel_rfl)).trans rfl
       simp only [Act.eval,Array.getD_eq_getD_getElem?] at h5
       clear hR hB
       unfold execOp
       simp [go_sem,h5])
     ·exact CalmOp.pure 7 25 (.pointer (some ⟨gc,oc + i * 11,none⟩)) rfl rfl rfl rfl (fun b w2 hR hB hS2=>by
       have h23:b.eval (.tmp 23)=.slice (some ⟨gc,oc,none⟩) N vc:=hR 5 5 23 _ rfl (by kernel_rfl)
       have h24:b.eval (.tmp 24)=.int .i64 (i:Int):=hR 6 6 24 _ rfl (by kernel_rfl)
       simp only [Act.eval,Array.getD_eq_getD_getElem?] at h23 h24
       clear hR hB
       unfold execOp
       simp [go_sem,h23,h24,hi0,hi2,hwi])
     ·exact CalmOp.pure 8 26 (.pointer (some ⟨gc,oc + i * 11 + 2,none⟩)) rfl rfl rfl rfl (fun b w2 hR hB hS2=>by
       have h25:b.eval (.tmp 25)=.pointer (some ⟨gc,oc + i * 11,none⟩):=hR 7 7 25 _ rfl (by kernel_rfl)
       simp only [Act.eval,Array.getD_eq_getD_getElem?] at h25
       clear hR hB
       unfold execOp
       simp [go_sem,h25])
     ·exact CalmOp.pure 9 27 (.agg #[.int .i64 (e.kind:Int),.int .i64 e.n,.string ⟨e.name.toArray⟩,.string ⟨e.label.toArray⟩,.slice ya1 yn1 yc1,.slice ya2 yn2 yc2,.slice ya3 yn3 yc3,.slice ya4 yn4 yc4,.slice ya5 yn5 yc5]) rfl rfl rfl rfl (fun b w2 hR hB hS2=>by
       have h26:b.eval (.tmp 26)=.pointer (some ⟨gc,oc + i * 11 + 2,none⟩):=hR 8 8 26 _ rfl (by kernel_rfl)
       clear hR hB
       have e:=run_loadAt_mid (P:=Tryz.prog) w2 _ _ 41 _ _ (range_below HR2.out hS2.2) Tryz.underlying41 rfl sz_Ast
       show Sem.run Tryz.prog (do let v ← Instr.loadAt 41 (b.eval (.tmp 26));pure (Next.value v)) w2=_
       rw [h26,Sem.run_bind,e]
       rfl)
     ·exact CalmOp.call 10 28 (.bool true) #[.agg #[.int .i64 (e.kind:Int),.int .i64 e.n,.string ⟨e.name.toArray⟩,.string ⟨e.label.toArray⟩,.slice xa1 xn1 xc1,.slice xa2 xn2 xc2,.slice xa3 xn3 xc3,.slice xa4 xn4 xc4,.slice xa5 xn5 xc5],.agg #[.int .i64 (e.kind:Int),.int .i64 e.n,.string ⟨e.name.toArray⟩,.string ⟨e.label.toArray⟩,.slice ya1 yn1 yc1,.slice ya2 yn2 yc2,.slice ya3 yn3 yc3,.slice ya4 yn4 yc4,.slice ya5 yn5 yc5]] rfl rfl rfl rfl (fun b w2 hR hB hS2=>by
       have h22:b.eval (.tmp 22)=.agg #[.int .i64 (e.kind:Int),.int .i64 e.n,.string ⟨e.name.toArray⟩,.string ⟨e.label.toArray⟩,.slice xa1 xn1 xc1,.slice xa2 xn2 xc2,.slice xa3 xn3 xc3,.slice xa4 xn4 xc4,.slice xa5 xn5 xc5]:=hR 4 4 22 _ rfl (by kernel_rfl)
       have h27:b.eval (.tmp 27)=.agg #[.int .i64 (e.kind:Int),.int .i64 e.n,.string ⟨e.name.toArray⟩,.string ⟨e.label.toArray⟩,.slice ya1 yn1 yc1,.slice ya2 yn2 yc2,.slice ya3 yn3 yc3,.slice ya4 yn4 yc4,.slice ya5 yn5 yc5]:=hR 9 9 27 _ rfl (by kernel_rfl)
       simp only [Act.eval,Array.getD_eq_getD_getElem?] at h22 h27
       clear hR hB
       unfold execOp
       simp [go_sem,h22,h27]) (fun w2 hS2=>(show Calls _ _ #[.agg #[.int .i64 (e.kind:Int),.int .i64 e.n,.string ⟨e.name.toArray⟩,.string ⟨e.label.toArray⟩,.slice xa1 xn1 xc1,.slice xa2 xn2 xc2,.slice xa3 xn3 xc3,.slice xa4 xn4 xc4,.slice xa5 xn5 xc5],.agg #[.int .i64 (e.kind:Int),.int .i64 e.n,.string ⟨e.name.toArray⟩,.string ⟨e.label.toArray⟩,.slice ya1 yn1 yc1,.slice ya2 yn2 yc2,.slice ya3 yn3 yc3,.slice ya4 yn4 yc4,.slice ya5 yn5 yc5]] w2 _ from HD.out (c:=[.int .i64 (e.kind:Int),.int .i64 e.n,.string ⟨e.name.toArray⟩,.string ⟨e.label.toArray⟩,.slice xa1 xn1 xc1,.slice xa2 xn2 xc2,.slice xa3 xn3 xc3,.slice xa4 xn4 xc4,.slice xa5 xn5 xc5]) (d:=[.int .i64 (e.kind:Int),.int .i64 e.n,.string ⟨e.name.toArray⟩,.string ⟨e.label.toArray⟩,.slice ya1 yn1 yc1,.slice ya2 yn2 yc2,.slice ya3 yn3 yc3,.slice ya4 yn4 yc4,.slice ya5 yn5 yc5]) ⟨_,_,_,_,_,rfl,HF1.out.up (Keep.below hS2.2)⟩ ⟨_,_,_,_,_,rfl,HF2.out.up (Keep.below hS2.2)⟩).mono fun e w3 h=>⟨by rw [h.1],hS2.1.trans (h.2.mono hS2.1.size),hS2.2.trans (h.2.mono hS2.2.size)⟩)
     ·exact CalmOp.pure 11 6 (.bool true) rfl rfl rfl rfl (fun b w2 hR hB hS2=>by
       have h28:b.eval (.tmp 28)=.bool true:=hR 10 10 28 _ rfl (by kernel_rfl)
       simp only [Act.eval,Array.getD_eq_getD_getElem?] at h28
       clear hR hB
       unfold execOp
       simp [go_sem,h28])
    simp only [puts,Act.put,List.setIfInBounds_toArray,List.set_cons_zero,List.set_cons_succ]
    have hm:=HM.out
    have hm1:w9.cell? ⟨gb,ob + i * 11,none⟩=some (.bool m):=by rw [hS9.2.cell (World.block_lt_of_cell? _ _ hm.1.1)];exact hm.1.1
    have hm2:w9.cell? ⟨gc,oc + i * 11,none⟩=some (.bool m):=by rw [hS9.2.cell (World.block_lt_of_cell? _ _ hm.1.2)];exact hm.1.2
    have ha1:w9.cell? ⟨gb,ob + i * 11 + 1,none⟩=some (.bool any):=by rw [hS9.2.cell (World.block_lt_of_cell? _ _ hm.2.1)];exact hm.2.1
    have ha2:w9.cell? ⟨gc,oc + i * 11 + 1,none⟩=some (.bool any):=by rw [hS9.2.cell (World.block_lt_of_cell? _ _ hm.2.2)];exact hm.2.2
    have HB9:=Lib.hid hS9.1
    clear hm hS9 HM HR1 HR2 HF1 HF2
    go_wp2
    go_quiet (fail)
    have HBn:=Lib.hid (show Below w.heap.size w (w9.drewN nq) from ⟨HB9.out.os,HB9.out.tape,HB9.out.output,HB9.out.size,HB9.out.block⟩)
    go_wp2
    refine ⟨⟨i + 1,by simp,by omega,HBn⟩,?_⟩
    simp [intOf]
    omega
  ·have hi3:i=N:=by omega
   subst hi3
   go_wp2
   go_ret
   exact ⟨rfl,HB.out⟩
set_option maxHeartbeats 4000000 in
set_option maxRecDepth 1000000 in
theorem sameRefFn {r:Rf} (hl:∀ a ∈ r.index,SameD a) {P Q:Nat→Prop} {w:World} {n1 i1 h1 n2 i2 h2:Value} (k1:RfF P w r n1 i1 h1) (k2:RfF Q w r n2 i2 h2):
  Calls Tryz.prog 32 #[.agg #[n1,i1,h1],.agg #[n2,i2,h2]] w fun e w'=>e=.returned (.bool true)∧Below w.heap.size w w':=by
 obtain ⟨na1,nn1,nc1,ia1,in1,ic1,ha1,hn1,hc1,rfl,rfl,rfl⟩:=RfF.forms k1
 obtain ⟨na2,nn2,nc2,ia2,in2,ic2,ha2,hn2,hc2,rfl,rfl,rfl⟩:=RfF.forms k2
 obtain ⟨kn1,⟨f1,ki1,kf1⟩,kh1⟩:=k1
 obtain ⟨kn2,⟨f2,ki2,kf2⟩,kh2⟩:=k2
 obtain ⟨a0,c0,hx,hcc1,hcm1,_⟩:=kh1.form
 injection hx with hx1 hx2 hx3
 subst hx1 hx2 hx3
 obtain ⟨a0,c0,hx,hcc2,hcm2,_⟩:=kh2.form
 injection hx with hx1 hx2 hx3
 subst hx1 hx2 hx3
 obtain ⟨N,hN⟩:∃ N,r.has.length=N:=⟨_,rfl⟩
 obtain ⟨W,hW⟩:∃ W,W=(w.alloc (.cells #[.slice na1 nn1 nc1,.slice ia1 in1 ic1,.slice ha1 r.has.length hc1] 38)).alloc (.cells #[.slice na2 nn2 nc2,.slice ia2 in2 ic2,.slice ha2 r.has.length hc2] 38):=⟨_,rfl⟩
 have hB0:Below w.heap.size w W:=by rw [hW];exact ((Below.refl _ _).alloc (Nat.le_refl _) _).alloc (by simp) _
 have hb1:Holds W w.heap.size 38 [.slice na1 nn1 nc1,.slice ia1 in1 ic1,.slice ha1 r.has.length hc1]:=by rw [hW];exact (Holds.new w 38 #[.slice na1 nn1 nc1,.slice ia1 in1 ic1,.slice ha1 r.has.length hc1]).alloc _
 have hb2:Holds W (w.heap.size + 1) 38 [.slice na2 nn2 nc2,.slice ia2 in2 ic2,.slice ha2 r.has.length hc2]:=by
  rw [hW]
  have:=Holds.new (w.alloc (.cells #[.slice na1 nn1 nc1,.slice ia1 in1 ic1,.slice ha1 r.has.length hc1] 38)) 38 #[.slice na2 nn2 nc2,.slice ia2 in2 ic2,.slice ha2 r.has.length hc2]
  rwa [show (w.alloc (.cells #[.slice na1 nn1 nc1,.slice ia1 in1 ic1,.slice ha1 r.has.length hc1] 38)).heap.size=w.heap.size + 1 by simp] at this
 rw [hN] at hb1 hb2 hW hcc1 hcc2 ⊢
 have H1:=Lib.hid (kh1.up (Keep.below hB0))
 have H2:=Lib.hid (kh2.up (Keep.below hB0))
 have HN1:=Lib.hid (kn1.up (Keep.below hB0))
 have HN2:=Lib.hid (kn2.up (Keep.below hB0))
 have HI1:=Lib.hid (ki1.up (Keep.below hB0))
 have HI2:=Lib.hid (ki2.up (Keep.below hB0))
 have HF1:=Lib.hid (LsF.up (fun _ _=>oneAst.up (Keep.below hB0)) _ kf1.ls)
 have HF2:=Lib.hid (LsF.up (fun _ _=>oneAst.up (Keep.below hB0)) _ kf2.ls)
 have HH:=Lib.hid hl
 have HN:=Lib.hid hN
 have HB0:=Lib.hid hB0
 have HX1:=Lib.hid hb1
 have HX2:=Lib.hid hb2
 have e1:W.cell? ⟨w.heap.size,2,none⟩=some (.slice ha1 N hc1):=hb1.cell 2
 have e2:W.cell? ⟨w.heap.size + 1,2,none⟩=some (.slice ha2 N hc2):=hb2.cell 2
 rw [hW] at e1 e2
 clear hl kn1 kn2 ki1 ki2 kf1 kf2 kh1 kh2 hN hB0 hb1 hb2
 go_enter Tryz.func32,Tryz.ntmps32
 go_wp2
 rw [← hW] at e1 e2
 rw [← hW]
 clear hW e1 e2
 go_loopw [5] (fun x wx=>∃ i:Nat,x=.int .i64 (i:Int)∧i ≤ N∧Hid (Below W.heap.size W wx)) (fun x _=>N - (intOf x).toNat)
 case atStart=>exact ⟨0,rfl,Nat.zero_le _,Below.refl _ _⟩
 case round=>
  obtain ⟨i,hx,hi,HB⟩:=hrel
  subst hx
  have e1:wr.cell? ⟨w.heap.size,2,none⟩=some (.slice ha1 N hc1):=(HX1.out.belowAll HB.out).cell 2
  have e2:wr.cell? ⟨w.heap.size + 1,2,none⟩=some (.slice ha2 N hc2):=(HX2.out.belowAll HB.out).cell 2
  by_cases hin:i < N
  ·have hi2:(i:Int) < (N:Int):=by omega
   have hi0:(0:Int) ≤ (i:Int):=by omega
   have hwi:IntKind.i64.wrap (i:Int)=(i:Int):=by rw [IntKind.wrap_i64];omega
   have hwi1:IntKind.i64.wrap ((i:Int) + 1)=(i:Int) + 1:=by rw [IntKind.wrap_i64];omega
   obtain ⟨g1,o1,q1,x1,he1,hf1,hd1⟩:=(H1.out.up (Keep.below HB.out)).at1 (by rw [HN.out];exact hin)
   obtain ⟨g2,o2,q2,x2,he2,hf2,hd2⟩:=(H2.out.up (Keep.below HB.out)).at1 (by rw [HN.out];exact hin)
   rw [HN.out] at he1 he2
   injection he1 with he1 _ he1'
   subst he1 he1'
   injection he2 with he2 _ he2'
   subst he2 he2'
   rw [hf1] at hf2
   injection hf2 with hf2
   subst hf2
   have hil:i < r.has.length:=by rw [HN.out];exact hin
   rw [List.getElem?_map,List.getElem?_eq_getElem hil] at hf1
   injection hf1 with hf1
   subst hf1
   obtain ⟨q,hq⟩:∃ q,r.has[i]=q:=⟨_,rfl⟩
   rw [hq] at hd1 hd2
   clear hq
   go_wp2
   go_quiet (fail)
   have HB2:=Lib.hid (show Below W.heap.size W (wr.drewN nq) from ⟨HB.out.os,HB.out.tape,HB.out.output,HB.out.size,HB.out.block⟩)
   go_wp2
   refine ⟨⟨i + 1,by simp,by omega,HB2⟩,?_⟩
   simp [intOf]
   omega
  ·have hi3:i=N:=by omega
   subst hi3
   have e3:wr.cell? ⟨w.heap.size,0,none⟩=some (.slice na1 nn1 nc1):=(HX1.out.belowAll HB.out).cell 0
   have e4:wr.cell? ⟨w.heap.size + 1,0,none⟩=some (.slice na2 nn2 nc2):=(HX2.out.belowAll HB.out).cell 0
   have HT:=Lib.hid (textsFn (HN1.out.up (Keep.below HB.out)) (HN2.out.up (Keep.below HB.out)))
   go_wp2_with (fail)
   refine HT.out.mono ?_
   rintro e w5 ⟨rfl,hb5⟩
   have HB5:=Lib.hid (HB.out.trans (hb5.mono HB.out.size))
   have e5:w5.cell? ⟨w.heap.size,1,none⟩=some (.slice ia1 in1 ic1):=(HX1.out.belowAll HB5.out).cell 1
   have e6:w5.cell? ⟨w.heap.size + 1,1,none⟩=some (.slice ia2 in2 ic2):=(HX2.out.belowAll HB5.out).cell 1
   have HA:=Lib.hid (sameAstsFn HH.out (HI1.out.up (Keep.below HB5.out)) (LsF.up (fun _ _=>oneAst.up (Keep.below HB5.out)) _ HF1.out) (HI2.out.up (Keep.below HB5.out)) (LsF.up (fun _ _=>oneAst.up (Keep.below HB5.out)) _ HF2.out))
   clear hb5 HT
   go_wp2_with (fail)
   refine HA.out.mono ?_
   rintro e w6 ⟨rfl,hb6⟩
   have HB6:=Lib.hid (HB0.out.trans ((HB5.out.trans (hb6.mono HB5.out.size)).mono HB0.out.size))
   clear hb6 HA
   go_wp2
   go_ret
   exact ⟨rfl,HB6.out⟩
set_option maxHeartbeats 4000000 in
set_option maxRecDepth 1000000 in
theorem sameStep {k:Nat} {n:Int} {nm lb:Bs} {ns:List Bs} {is:List Ast} {hs:List Bool} {ks:List Ast} {gs:List Arg} (h1:∀ a ∈ ks,SameD a) (h2:∀ a ∈ is,SameD a) (h3:∀ m a e,Arg.mk m a e ∈ gs→SameD e):SameD (.mk k n nm lb ns is hs ks gs):=by
 intro P Q w c d hc hd
 obtain ⟨vn,vi,vh,vk,va,rfl,hf⟩:=hc
 obtain ⟨un,ui,uh,uk,ua,rfl,hg⟩:=hd
 have hf2:=hf
 have hg2:=hg
 rw [AstF] at hf2 hg2
 obtain ⟨an1,⟨fi,ai1,bi1⟩,ah1,⟨fk,ak1,bk1⟩,⟨fa,aa1,ba1⟩⟩:=hf2
 obtain ⟨an2,⟨gi,ai2,bi2⟩,ah2,⟨gk,ak2,bk2⟩,⟨ga,aa2,ba2⟩⟩:=hg2
 obtain ⟨xa1,xn1,xc1,xa2,xn2,xc2,xa3,xn3,xc3,xa4,xn4,xc4,xa5,xn5,xc5,rfl,rfl,rfl,rfl,rfl⟩:=hf.forms
 obtain ⟨ya1,yn1,yc1,ya2,yn2,yc2,ya3,yn3,yc3,ya4,yn4,yc4,ya5,yn5,yc5,rfl,rfl,rfl,rfl,rfl⟩:=hg.forms
 have HK:=Lib.hid h1
 have HA:=Lib.hid h3
 obtain ⟨W,hW⟩:∃ W,W=(w.alloc (.cells #[.int .i64 (k:Int),.int .i64 n,.string ⟨nm.toArray⟩,.string ⟨lb.toArray⟩,.slice xa1 xn1 xc1,.slice xa2 xn2 xc2,.slice xa3 xn3 xc3,.slice xa4 xn4 xc4,.slice xa5 xn5 xc5] 41)).alloc (.cells #[.int .i64 (k:Int),.int .i64 n,.string ⟨nm.toArray⟩,.string ⟨lb.toArray⟩,.slice ya1 yn1 yc1,.slice ya2 yn2 yc2,.slice ya3 yn3 yc3,.slice ya4 yn4 yc4,.slice ya5 yn5 yc5] 41):=⟨_,rfl⟩
 have hB0:Below w.heap.size w W:=by rw [hW];exact ((Below.refl _ _).alloc (Nat.le_refl _) _).alloc (by simp) _
 have hb1:Holds W w.heap.size 41 [.int .i64 (k:Int),.int .i64 n,.string ⟨nm.toArray⟩,.string ⟨lb.toArray⟩,.slice xa1 xn1 xc1,.slice xa2 xn2 xc2,.slice xa3 xn3 xc3,.slice xa4 xn4 xc4,.slice xa5 xn5 xc5]:=by rw [hW];exact (Holds.new w 41 #[.int .i64 (k:Int),.int .i64 n,.string ⟨nm.toArray⟩,.string ⟨lb.toArray⟩,.slice xa1 xn1 xc1,.slice xa2 xn2 xc2,.slice xa3 xn3 xc3,.slice xa4 xn4 xc4,.slice xa5 xn5 xc5]).alloc _
 have hb2:Holds W (w.heap.size + 1) 41 [.int .i64 (k:Int),.int .i64 n,.string ⟨nm.toArray⟩,.string ⟨lb.toArray⟩,.slice ya1 yn1 yc1,.slice ya2 yn2 yc2,.slice ya3 yn3 yc3,.slice ya4 yn4 yc4,.slice ya5 yn5 yc5]:=by
  rw [hW]
  have:=Holds.new (w.alloc (.cells #[.int .i64 (k:Int),.int .i64 n,.string ⟨nm.toArray⟩,.string ⟨lb.toArray⟩,.slice xa1 xn1 xc1,.slice xa2 xn2 xc2,.slice xa3 xn3 xc3,.slice xa4 xn4 xc4,.slice xa5 xn5 xc5] 41)) 41 #[.int .i64 (k:Int),.int .i64 n,.string ⟨nm.toArray⟩,.string ⟨lb.toArray⟩,.slice ya1 yn1 yc1,.slice ya2 yn2 yc2,.slice ya3 yn3 yc3,.slice ya4 yn4 yc4,.slice ya5 yn5 yc5]
  rwa [show (w.alloc (.cells #[.int .i64 (k:Int),.int .i64 n,.string ⟨nm.toArray⟩,.string ⟨lb.toArray⟩,.slice xa1 xn1 xc1,.slice xa2 xn2 xc2,.slice xa3 xn3 xc3,.slice xa4 xn4 xc4,.slice xa5 xn5 xc5] 41)).heap.size=w.heap.size + 1 by simp] at this
 have HX1:=Lib.hid hb1
 have HX2:=Lib.hid hb2
 have HB0:=Lib.hid hB0
 have HR:=Lib.hid (sameRefFn (r:=⟨ns,is,hs⟩) h2 (RfF.up' (Keep.below hB0) ⟨an1,⟨fi,ai1,bi1⟩,ah1⟩) (RfF.up' (Keep.below hB0) ⟨an2,⟨gi,ai2,bi2⟩,ah2⟩))
 have HK1:=Lib.hid (ak1.up (Keep.below hB0))
 have HK2:=Lib.hid (ak2.up (Keep.below hB0))
 have HKF1:=Lib.hid (LsF.up (fun _ _=>oneAst.up (Keep.below hB0)) _ bk1.ls)
 have HKF2:=Lib.hid (LsF.up (fun _ _=>oneAst.up (Keep.below hB0)) _ bk2.ls)
 have HA1:=Lib.hid (aa1.up (Keep.below hB0))
 have HA2:=Lib.hid (aa2.up (Keep.below hB0))
 have HAF1:=Lib.hid (LsF.up (fun _ _=>oneArgG.up (Keep.below hB0)) _ ba1.ls)
 have HAF2:=Lib.hid (LsF.up (fun _ _=>oneArgG.up (Keep.below hB0)) _ ba2.ls)
 have e0:W.cell? ⟨w.heap.size,0,none⟩=some (.int .i64 (k:Int)):=hb1.cell 0
 have e0':W.cell? ⟨w.heap.size + 1,0,none⟩=some (.int .i64 (k:Int)):=hb2.cell 0
 have e1:W.cell? ⟨w.heap.size,1,none⟩=some (.int .i64 n):=hb1.cell 1
 have e1':W.cell? ⟨w.heap.size + 1,1,none⟩=some (.int .i64 n):=hb2.cell 1
 have e2:W.cell? ⟨w.heap.size,2,none⟩=some (.string ⟨nm.toArray⟩):=hb1.cell 2
 have e2':W.cell? ⟨w.heap.size + 1,2,none⟩=some (.string ⟨nm.toArray⟩):=hb2.cell 2
 have e3:W.cell? ⟨w.heap.size,3,none⟩=some (.string ⟨lb.toArray⟩):=hb1.cell 3
 have e3':W.cell? ⟨w.heap.size + 1,3,none⟩=some (.string ⟨lb.toArray⟩):=hb2.cell 3
 have e4:W.cell? ⟨w.heap.size,4,none⟩=some (.slice xa1 xn1 xc1):=hb1.cell 4
 have e4':W.cell? ⟨w.heap.size + 1,4,none⟩=some (.slice ya1 yn1 yc1):=hb2.cell 4
 have e5:W.cell? ⟨w.heap.size,5,none⟩=some (.slice xa2 xn2 xc2):=hb1.cell 5
 have e5':W.cell? ⟨w.heap.size + 1,5,none⟩=some (.slice ya2 yn2 yc2):=hb2.cell 5
 have e6:W.cell? ⟨w.heap.size,6,none⟩=some (.slice xa3 xn3 xc3):=hb1.cell 6
 have e6':W.cell? ⟨w.heap.size + 1,6,none⟩=some (.slice ya3 yn3 yc3):=hb2.cell 6
 rw [hW] at e0 e0' e1 e1' e2 e2' e3 e3' e4 e4' e5 e5' e6 e6'
 clear h1 h2 h3 hf hg an1 ai1 bi1 ah1 ak1 bk1 aa1 ba1 an2 ai2 bi2 ah2 ak2 bk2 aa2 ba2 hb1 hb2 hB0
 show Calls _ _ #[.agg #[.int .i64 (k:Int),.int .i64 n,.string ⟨nm.toArray⟩,.string ⟨lb.toArray⟩,.slice xa1 xn1 xc1,.slice xa2 xn2 xc2,.slice xa3 xn3 xc3,.slice xa4 xn4 xc4,.slice xa5 xn5 xc5],.agg #[.int .i64 (k:Int),.int .i64 n,.string ⟨nm.toArray⟩,.string ⟨lb.toArray⟩,.slice ya1 yn1 yc1,.slice ya2 yn2 yc2,.slice ya3 yn3 yc3,.slice ya4 yn4 yc4,.slice ya5 yn5 yc5]] w _
 go_enter Tryz.func12,Tryz.ntmps12
 rw [hW] at HR
 go_wp2_with (fail)
 refine HR.out.mono ?_
 rw [← hW]
 rintro e w5 ⟨rfl,hb5⟩
 have HB5:=Lib.hid hb5
 clear e0 e0' e1 e1' e2 e2' e3 e3' e4 e4' e5 e5' e6 e6' hW HR
 have d7:w5.cell? ⟨w.heap.size,7,none⟩=some (.slice xa4 xn4 xc4):=(HX1.out.belowAll HB5.out).cell 7
 have d7':w5.cell? ⟨w.heap.size + 1,7,none⟩=some (.slice ya4 yn4 yc4):=(HX2.out.belowAll HB5.out).cell 7
 have HC5:=Lib.hid (sameAstsFn HK.out (HK1.out.up (Keep.below hb5)) (LsF.up (fun _ _=>oneAst.up (Keep.below hb5)) _ HKF1.out) (HK2.out.up (Keep.below hb5)) (LsF.up (fun _ _=>oneAst.up (Keep.below hb5)) _ HKF2.out))
 clear hb5
 go_wp2_with (fail)
 refine HC5.out.mono ?_
 rintro e w6 ⟨rfl,hb6⟩
 have hb7:=HB5.out.trans (hb6.mono HB5.out.size)
 have HB6:=Lib.hid hb7
 have d8:w6.cell? ⟨w.heap.size,8,none⟩=some (.slice xa5 xn5 xc5):=(HX1.out.belowAll HB6.out).cell 8
 have d8':w6.cell? ⟨w.heap.size + 1,8,none⟩=some (.slice ya5 yn5 yc5):=(HX2.out.belowAll HB6.out).cell 8
 have HC6:=Lib.hid (sameArgsFn HA.out (HA1.out.up (Keep.below hb7)) (LsF.up (fun _ _=>oneArgG.up (Keep.below hb7)) _ HAF1.out) (HA2.out.up (Keep.below hb7)) (LsF.up (fun _ _=>oneArgG.up (Keep.below hb7)) _ HAF2.out))
 clear hb6 hb7 HC5
 go_wp2_with (fail)
 refine HC6.out.mono ?_
 rintro e w7 ⟨rfl,hb8⟩
 have HB8:=Lib.hid (HB0.out.trans ((HB6.out.trans (hb8.mono HB6.out.size)).mono HB0.out.size))
 clear hb8 HC6
 go_wp2
 go_ret
 exact ⟨rfl,HB8.out⟩
mutual
theorem sameD:∀ a,SameD a
 | .mk k n nm lb ns is hs ks gs=>sameStep (samesD ks) (samesD is) (sameGs gs)
theorem samesD:∀ (l:List Ast),∀ a ∈ l,SameD a
 | []=>fun a h=>by cases h
 | x :: l=>List.forall_mem_cons.2 ⟨sameD x,samesD l⟩
theorem sameGs:∀ (l:List Arg) (m a:Bool) (e:Ast),Arg.mk m a e ∈ l→SameD e
 | []=>fun m a e h=>by cases h
 | .mk m' a' e' :: l=>fun m a e h=>by
  have h1:SameD e':=sameD e'
  have h2:=sameGs l m a e
  rcases List.mem_cons.1 h with h | h
  ·injection h with _ _ h
   rw [h];intro P Q w c d hc hd;exact h1 hc hd
  ·intro P Q w c d hc hd;exact h2 h hc hd
end
end Go.Proofs.YtpoghableadkcaaGreatDoor
end
