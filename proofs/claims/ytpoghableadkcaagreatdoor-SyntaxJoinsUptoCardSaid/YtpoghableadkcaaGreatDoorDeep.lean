/- The loops of deepest, one for each type (printed by mkdeep.py). -/
import Derived.Test.YtpoghableadkcaaGreatDoorM12
import Derived.Test.YtpoghableadkcaaGreatDoorM18
namespace Go.Proofs.YtpoghableadkcaaGreatDoor
open Go.RowKit
set_option linter.unusedVariables false
set_option linter.unusedSimpArgs false

theorem LsF.at {A:Type} {G:(Nat→Prop)→World→A→List Value→Prop} {P:Nat→Prop} {w:World} {n:Nat} (hl:∀ a c,G P w a c→c.length=n):∀ {l:List A} {f:List Value} {k:Nat} (hk:k < l.length),LsF G P w l f→∃ c,G P w l[k] c∧∀ j,j < n→f[k * n + j]?=c[j]?
 | a :: l,f,0,hk,⟨c,r,h1,h2,h3⟩=>⟨c,h2,fun j hj=>by rw [h1,Nat.zero_mul,Nat.zero_add,List.getElem?_append_left (by rw [hl a c h2];exact hj)]⟩
 | a :: l,f,k + 1,hk,⟨c,r,h1,h2,h3⟩=>by
  obtain ⟨c',h4,h5⟩:=LsF.at hl (k:=k) (by simpa using hk) h3
  refine ⟨c',by simpa using h4,fun j hj=>?_⟩
  have hc:=hl a c h2
  rw [h1,List.getElem?_append_right (by rw [hc,Nat.succ_mul];omega),hc,show (k + 1) * n + j - n=k * n + j by rw [Nat.succ_mul];omega]
  exact h5 j hj
theorem Below.far {B:Nat} {w W:World} (h:Below B w W) (hb:B ≤ W.heap.size) (o:Obj) (xs:List Value) (i:Nat):Below B w (setR (W.alloc o) W.heap.size i xs):=by
 have h1:Below B w (W.alloc o):=h.alloc hb o
 have:∀ (xs:List Value) (i:Nat) {V:World},Below B w V→Below B w (setR V W.heap.size i xs):=by
  intro xs
  induction xs with
  | nil=>intro i V hV;exact hV
  | cons x r ih=>intro i V hV;exact ih (i + 1) (hV.setCell hb x)
 exact this xs i h1
/-- What an element's fact says of its cells. -/
structure One {A:Type} (G:(Nat→Prop)→World→A→List Value→Prop) (n:Nat):Prop where
 len:∀ {P w a c},G P w a c→c.length=n
 one:∀ {P w a c},G P w a c→c.all (·.oneCell')=true
 up:∀ {P:Nat→Prop} {w w':World} {a c},Keep P w w'→G P w a c→G P w' a c

set_option maxHeartbeats 4000000 in
set_option maxRecDepth 1000000 in
theorem deepAst {A:Type} {G:(Nat→Prop)→World→A→List Value→Prop} (d:A→Int) (H:One G 9) {P:Nat→Prop} (l:List A) {w:World} {v:Value} {flat:List Value} (g:Nat) (eg:∀ args w,(callFunc g args).run Tryz.prog w=.ok (.enter g args) w)
  (hcall:∀ a ∈ l,∀ {P:Nat→Prop} {w:World} {c:List Value},G P w a c→Calls Tryz.prog g #[.agg c.toArray] w fun e w'=>e=.returned (.int .i64 (d a))∧Below w.heap.size w w') (hr:RowL P w 9 v l.length flat) (hf:LsF G P w l flat):
  Calls Tryz.prog 71 #[v,.func (.func g) #[] #[]] w fun e w'=>e=.returned (.int .i64 (fo d l))∧Below w.heap.size w w':=by
 obtain ⟨va,vc,rfl,hc1,hc2,_⟩:=hr.form
 obtain ⟨N,hN⟩:∃ N,l.length=N:=⟨_,rfl⟩
 rw [hN] at hr hc1 ⊢
 have HR:=Lib.hid hr
 have HFl:=Lib.hid hf
 have HCa:=Lib.hid hcall
 have HN:=Lib.hid hN
 clear hr hf hcall hN
 go_enter Tryz.func71,Tryz.ntmps71
 go_wp2
 go_loopw [5,10] (fun m i wx=>∃ (k:Nat) (mm:Int),m=.int .i64 mm∧i=.int .i64 (k:Int)∧k ≤ N∧Hid (mm=fo d (l.take k))∧Hid (Below w.heap.size w wx)) (fun _ i _=>N - (intOf i).toNat)
 case atStart=>exact ⟨0,0,rfl,rfl,Nat.zero_le _,rfl,Below.refl _ _⟩
 case round=>
  obtain ⟨k,mm,hm,hi,hk,HM,HB⟩:=hrel
  subst hm hi
  by_cases hkn:k < N
  ·have hk2:(k:Int) < (N:Int):=by omega
   have hk0:(0:Int) ≤ (k:Int):=by omega
   have hwk:IntKind.i64.wrap (k:Int)=(k:Int):=by rw [IntKind.wrap_i64];omega
   have hwk1:IntKind.i64.wrap ((k:Int) + 1)=(k:Int) + 1:=by rw [IntKind.wrap_i64];omega
   have hkl:k < l.length:=by rw [HN.out];exact hkn
   obtain ⟨a2,c2,h1,_,_,h4,_,h6⟩:=HR.out.up (Keep.below HB.out)
   injection h1 with h1 _ h2
   subst h1 h2
   obtain ⟨gb,ob,cs,tb,h1,_,hH,hcs⟩:=h6 (by omega)
   subst h1
   obtain ⟨c,hG,hfc⟩:=LsF.at (fun a c=>H.len) hkl (LsF.up (fun a c=>H.up (Keep.below HB.out)) l HFl.out)
   have hcl:=H.len hG
   have hrg:wr.rangeAt gb (ob + k * 9) c:=fun j u hj=>by
    have hj2:j < 9:=by have:=(List.getElem?_eq_some_iff.1 hj).1;omega
    rw [hH.cell,Nat.add_assoc,hcs (k * 9 + j) (by omega),hfc j hj2]
    exact hj
   have HO:=Lib.hid (H.one hG)
   have hsz:(Tryz.prog.info? 41).map (·.size)=some c.length:=by rw [hcl];exact sz_Ast
   have hZ:Holds (wr.alloc (.cells #[.int .i64 0,.int .i64 0,.string ⟨#[]⟩,.string ⟨#[]⟩,.slice none 0 0,.slice none 0 0,.slice none 0 0,.slice none 0 0,.slice none 0 0] 41)) wr.heap.size 41 [.int .i64 0,.int .i64 0,.string ⟨#[]⟩,.string ⟨#[]⟩,.slice none 0 0,.slice none 0 0,.slice none 0 0,.slice none 0 0,.slice none 0 0]:=Holds.new wr 41 #[.int .i64 0,.int .i64 0,.string ⟨#[]⟩,.string ⟨#[]⟩,.slice none 0 0,.slice none 0 0,.slice none 0 0,.slice none 0 0,.slice none 0 0]
   have HZ:=Lib.hid hZ
   have HRG:=Lib.hid hrg
   have HG:=Lib.hid hG
   clear h4 h6 hH hcs hG hfc hrg hZ
   obtain ⟨dv,hdv⟩:∃ x,d l[k]=x:=⟨_,rfl⟩
   have HD:=Lib.hid hdv
   clear hdv
   go_wp2_with (first | (refine wpList_load_mid rfl 41 _ rfl gb (ob + k * 9) rfl c _ HRG.out Tryz.underlying41 rfl hsz ?_) | (refine wpList_storeB rfl 41 _ _ rfl wr.heap.size 0 c rfl rfl HZ.out (by rw [hcl];exact Nat.le_of_ble_eq_true rfl) hsz HO.out ?_))
   refine Named.mk (fun w7 hW=>?_)
   have hB7:Below w.heap.size w w7:=by rw [hW];exact Below.far HB.out HB.out.size _ _ _
   have hB8:Below wr.heap.size wr w7:=by rw [hW];exact Below.far (Below.refl _ _) (Nat.le_refl _) _ _ _
   have hD7:=HZ.out.stored hW (by rw [hcl];exact Nat.le_of_ble_eq_true rfl)
   rw [List.take_zero,List.nil_append,List.drop_of_length_le (by rw [hcl];exact Nat.le_of_ble_eq_true rfl),List.append_nil] at hD7
   have hC:=HCa.out l[k] (List.getElem_mem hkl) (H.up (Keep.below hB8) HG.out)
   rw [HD.out] at hC
   have HC:=Lib.hid hC
   have HD7:=Lib.hid hD7
   have HBn:=Lib.hid hB7
   clear hW hB7 hB8 hD7 hC HZ HRG HG
   go_wp2_with (refine wpList_load_mid rfl 41 _ rfl wr.heap.size 0 rfl c _ (HD7.out.range (n:=9) (by rw [List.drop_zero];exact List.take_of_length_le (by omega))) Tryz.underlying41 rfl hsz ?_)
   refine HC.out.mono ?_
   rintro e w9 ⟨rfl,hb⟩
   have HB9:=Lib.hid (HBn.out.trans (hb.mono HBn.out.size))
   have HM9:Hid (mx mm dv=fo d (l.take (k + 1))):=by show _=_;rw [fo_take hkl,HM.out,HD.out]
   clear hb HC HBn HB
   go_wp2
   refine ⟨⟨k + 1,mx mm dv,rfl,by simp,by omega,HM9,HB9⟩,?_⟩
   simp [intOf]
   omega
  ·have hk3:k=N:=by omega
   subst hk3
   have HF:Hid (mm=fo d l):=by show _=_;rw [HM.out,List.take_of_length_le (by rw [HN.out];exact Nat.le_refl _)]
   go_wp2
   go_ret
   exact ⟨by rw [HF.out];rfl,HB.out⟩

set_option maxHeartbeats 4000000 in
set_option maxRecDepth 1000000 in
theorem deepArg {A:Type} {G:(Nat→Prop)→World→A→List Value→Prop} (d:A→Int) (H:One G 11) {P:Nat→Prop} (l:List A) {w:World} {v:Value} {flat:List Value} (g:Nat) (eg:∀ args w,(callFunc g args).run Tryz.prog w=.ok (.enter g args) w)
  (hcall:∀ a ∈ l,∀ {P:Nat→Prop} {w:World} {c:List Value},G P w a c→Calls Tryz.prog g #[.agg c.toArray] w fun e w'=>e=.returned (.int .i64 (d a))∧Below w.heap.size w w') (hr:RowL P w 11 v l.length flat) (hf:LsF G P w l flat):
  Calls Tryz.prog 72 #[v,.func (.func g) #[] #[]] w fun e w'=>e=.returned (.int .i64 (fo d l))∧Below w.heap.size w w':=by
 obtain ⟨va,vc,rfl,hc1,hc2,_⟩:=hr.form
 obtain ⟨N,hN⟩:∃ N,l.length=N:=⟨_,rfl⟩
 rw [hN] at hr hc1 ⊢
 have HR:=Lib.hid hr
 have HFl:=Lib.hid hf
 have HCa:=Lib.hid hcall
 have HN:=Lib.hid hN
 clear hr hf hcall hN
 go_enter Tryz.func72,Tryz.ntmps72
 go_wp2
 go_loopw [5,10] (fun m i wx=>∃ (k:Nat) (mm:Int),m=.int .i64 mm∧i=.int .i64 (k:Int)∧k ≤ N∧Hid (mm=fo d (l.take k))∧Hid (Below w.heap.size w wx)) (fun _ i _=>N - (intOf i).toNat)
 case atStart=>exact ⟨0,0,rfl,rfl,Nat.zero_le _,rfl,Below.refl _ _⟩
 case round=>
  obtain ⟨k,mm,hm,hi,hk,HM,HB⟩:=hrel
  subst hm hi
  by_cases hkn:k < N
  ·have hk2:(k:Int) < (N:Int):=by omega
   have hk0:(0:Int) ≤ (k:Int):=by omega
   have hwk:IntKind.i64.wrap (k:Int)=(k:Int):=by rw [IntKind.wrap_i64];omega
   have hwk1:IntKind.i64.wrap ((k:Int) + 1)=(k:Int) + 1:=by rw [IntKind.wrap_i64];omega
   have hkl:k < l.length:=by rw [HN.out];exact hkn
   obtain ⟨a2,c2,h1,_,_,h4,_,h6⟩:=HR.out.up (Keep.below HB.out)
   injection h1 with h1 _ h2
   subst h1 h2
   obtain ⟨gb,ob,cs,tb,h1,_,hH,hcs⟩:=h6 (by omega)
   subst h1
   obtain ⟨c,hG,hfc⟩:=LsF.at (fun a c=>H.len) hkl (LsF.up (fun a c=>H.up (Keep.below HB.out)) l HFl.out)
   have hcl:=H.len hG
   have hrg:wr.rangeAt gb (ob + k * 11) c:=fun j u hj=>by
    have hj2:j < 11:=by have:=(List.getElem?_eq_some_iff.1 hj).1;omega
    rw [hH.cell,Nat.add_assoc,hcs (k * 11 + j) (by omega),hfc j hj2]
    exact hj
   have HO:=Lib.hid (H.one hG)
   have hsz:(Tryz.prog.info? 116).map (·.size)=some c.length:=by rw [hcl];exact sz_Arg
   have hZ:Holds (wr.alloc (.cells #[.bool false,.bool false,.int .i64 0,.int .i64 0,.string ⟨#[]⟩,.string ⟨#[]⟩,.slice none 0 0,.slice none 0 0,.slice none 0 0,.slice none 0 0,.slice none 0 0] 116)) wr.heap.size 116 [.bool false,.bool false,.int .i64 0,.int .i64 0,.string ⟨#[]⟩,.string ⟨#[]⟩,.slice none 0 0,.slice none 0 0,.slice none 0 0,.slice none 0 0,.slice none 0 0]:=Holds.new wr 116 #[.bool false,.bool false,.int .i64 0,.int .i64 0,.string ⟨#[]⟩,.string ⟨#[]⟩,.slice none 0 0,.slice none 0 0,.slice none 0 0,.slice none 0 0,.slice none 0 0]
   have HZ:=Lib.hid hZ
   have HRG:=Lib.hid hrg
   have HG:=Lib.hid hG
   clear h4 h6 hH hcs hG hfc hrg hZ
   obtain ⟨dv,hdv⟩:∃ x,d l[k]=x:=⟨_,rfl⟩
   have HD:=Lib.hid hdv
   clear hdv
   go_wp2_with (first | (refine wpList_load_mid rfl 116 _ rfl gb (ob + k * 11) rfl c _ HRG.out Tryz.underlying116 rfl hsz ?_) | (refine wpList_storeB rfl 116 _ _ rfl wr.heap.size 0 c rfl rfl HZ.out (by rw [hcl];exact Nat.le_of_ble_eq_true rfl) hsz HO.out ?_))
   refine Named.mk (fun w7 hW=>?_)
   have hB7:Below w.heap.size w w7:=by rw [hW];exact Below.far HB.out HB.out.size _ _ _
   have hB8:Below wr.heap.size wr w7:=by rw [hW];exact Below.far (Below.refl _ _) (Nat.le_refl _) _ _ _
   have hD7:=HZ.out.stored hW (by rw [hcl];exact Nat.le_of_ble_eq_true rfl)
   rw [List.take_zero,List.nil_append,List.drop_of_length_le (by rw [hcl];exact Nat.le_of_ble_eq_true rfl),List.append_nil] at hD7
   have hC:=HCa.out l[k] (List.getElem_mem hkl) (H.up (Keep.below hB8) HG.out)
   rw [HD.out] at hC
   have HC:=Lib.hid hC
   have HD7:=Lib.hid hD7
   have HBn:=Lib.hid hB7
   clear hW hB7 hB8 hD7 hC HZ HRG HG
   go_wp2_with (refine wpList_load_mid rfl 116 _ rfl wr.heap.size 0 rfl c _ (HD7.out.range (n:=11) (by rw [List.drop_zero];exact List.take_of_length_le (by omega))) Tryz.underlying116 rfl hsz ?_)
   refine HC.out.mono ?_
   rintro e w9 ⟨rfl,hb⟩
   have HB9:=Lib.hid (HBn.out.trans (hb.mono HBn.out.size))
   have HM9:Hid (mx mm dv=fo d (l.take (k + 1))):=by show _=_;rw [fo_take hkl,HM.out,HD.out]
   clear hb HC HBn HB
   go_wp2
   refine ⟨⟨k + 1,mx mm dv,rfl,by simp,by omega,HM9,HB9⟩,?_⟩
   simp [intOf]
   omega
  ·have hk3:k=N:=by omega
   subst hk3
   have HF:Hid (mm=fo d l):=by show _=_;rw [HM.out,List.take_of_length_le (by rw [HN.out];exact Nat.le_refl _)]
   go_wp2
   go_ret
   exact ⟨by rw [HF.out];rfl,HB.out⟩

set_option maxHeartbeats 4000000 in
set_option maxRecDepth 1000000 in
theorem deepDVar {A:Type} {G:(Nat→Prop)→World→A→List Value→Prop} (d:A→Int) (H:One G 23) {P:Nat→Prop} (l:List A) {w:World} {v:Value} {flat:List Value} (g:Nat) (eg:∀ args w,(callFunc g args).run Tryz.prog w=.ok (.enter g args) w)
  (hcall:∀ a ∈ l,∀ {P:Nat→Prop} {w:World} {c:List Value},G P w a c→Calls Tryz.prog g #[.agg c.toArray] w fun e w'=>e=.returned (.int .i64 (d a))∧Below w.heap.size w w') (hr:RowL P w 23 v l.length flat) (hf:LsF G P w l flat):
  Calls Tryz.prog 108 #[v,.func (.func g) #[] #[]] w fun e w'=>e=.returned (.int .i64 (fo d l))∧Below w.heap.size w w':=by
 obtain ⟨va,vc,rfl,hc1,hc2,_⟩:=hr.form
 obtain ⟨N,hN⟩:∃ N,l.length=N:=⟨_,rfl⟩
 rw [hN] at hr hc1 ⊢
 have HR:=Lib.hid hr
 have HFl:=Lib.hid hf
 have HCa:=Lib.hid hcall
 have HN:=Lib.hid hN
 clear hr hf hcall hN
 go_enter Tryz.func108,Tryz.ntmps108
 go_wp2
 go_loopw [5,10] (fun m i wx=>∃ (k:Nat) (mm:Int),m=.int .i64 mm∧i=.int .i64 (k:Int)∧k ≤ N∧Hid (mm=fo d (l.take k))∧Hid (Below w.heap.size w wx)) (fun _ i _=>N - (intOf i).toNat)
 case atStart=>exact ⟨0,0,rfl,rfl,Nat.zero_le _,rfl,Below.refl _ _⟩
 case round=>
  obtain ⟨k,mm,hm,hi,hk,HM,HB⟩:=hrel
  subst hm hi
  by_cases hkn:k < N
  ·have hk2:(k:Int) < (N:Int):=by omega
   have hk0:(0:Int) ≤ (k:Int):=by omega
   have hwk:IntKind.i64.wrap (k:Int)=(k:Int):=by rw [IntKind.wrap_i64];omega
   have hwk1:IntKind.i64.wrap ((k:Int) + 1)=(k:Int) + 1:=by rw [IntKind.wrap_i64];omega
   have hkl:k < l.length:=by rw [HN.out];exact hkn
   obtain ⟨a2,c2,h1,_,_,h4,_,h6⟩:=HR.out.up (Keep.below HB.out)
   injection h1 with h1 _ h2
   subst h1 h2
   obtain ⟨gb,ob,cs,tb,h1,_,hH,hcs⟩:=h6 (by omega)
   subst h1
   obtain ⟨c,hG,hfc⟩:=LsF.at (fun a c=>H.len) hkl (LsF.up (fun a c=>H.up (Keep.below HB.out)) l HFl.out)
   have hcl:=H.len hG
   have hrg:wr.rangeAt gb (ob + k * 23) c:=fun j u hj=>by
    have hj2:j < 23:=by have:=(List.getElem?_eq_some_iff.1 hj).1;omega
    rw [hH.cell,Nat.add_assoc,hcs (k * 23 + j) (by omega),hfc j hj2]
    exact hj
   have HO:=Lib.hid (H.one hG)
   have hsz:(Tryz.prog.info? 108).map (·.size)=some c.length:=by rw [hcl];exact sz_DVar
   have hZ:Holds (wr.alloc (.cells #[.string ⟨#[]⟩,.bool false,.int .i64 0,.int .i64 0,.string ⟨#[]⟩,.string ⟨#[]⟩,.slice none 0 0,.slice none 0 0,.slice none 0 0,.slice none 0 0,.slice none 0 0,.bool false,.int .i64 0,.int .i64 0,.string ⟨#[]⟩,.string ⟨#[]⟩,.slice none 0 0,.slice none 0 0,.slice none 0 0,.slice none 0 0,.slice none 0 0,.bool false,.slice none 0 0] 108)) wr.heap.size 108 [.string ⟨#[]⟩,.bool false,.int .i64 0,.int .i64 0,.string ⟨#[]⟩,.string ⟨#[]⟩,.slice none 0 0,.slice none 0 0,.slice none 0 0,.slice none 0 0,.slice none 0 0,.bool false,.int .i64 0,.int .i64 0,.string ⟨#[]⟩,.string ⟨#[]⟩,.slice none 0 0,.slice none 0 0,.slice none 0 0,.slice none 0 0,.slice none 0 0,.bool false,.slice none 0 0]:=Holds.new wr 108 #[.string ⟨#[]⟩,.bool false,.int .i64 0,.int .i64 0,.string ⟨#[]⟩,.string ⟨#[]⟩,.slice none 0 0,.slice none 0 0,.slice none 0 0,.slice none 0 0,.slice none 0 0,.bool false,.int .i64 0,.int .i64 0,.string ⟨#[]⟩,.string ⟨#[]⟩,.slice none 0 0,.slice none 0 0,.slice none 0 0,.slice none 0 0,.slice none 0 0,.bool false,.slice none 0 0]
   have HZ:=Lib.hid hZ
   have HRG:=Lib.hid hrg
   have HG:=Lib.hid hG
   clear h4 h6 hH hcs hG hfc hrg hZ
   obtain ⟨dv,hdv⟩:∃ x,d l[k]=x:=⟨_,rfl⟩
   have HD:=Lib.hid hdv
   clear hdv
   go_wp2_with (first | (refine wpList_load_mid rfl 108 _ rfl gb (ob + k * 23) rfl c _ HRG.out Tryz.underlying108 rfl hsz ?_) | (refine wpList_storeB rfl 108 _ _ rfl wr.heap.size 0 c rfl rfl HZ.out (by rw [hcl];exact Nat.le_of_ble_eq_true rfl) hsz HO.out ?_))
   refine Named.mk (fun w7 hW=>?_)
   have hB7:Below w.heap.size w w7:=by rw [hW];exact Below.far HB.out HB.out.size _ _ _
   have hB8:Below wr.heap.size wr w7:=by rw [hW];exact Below.far (Below.refl _ _) (Nat.le_refl _) _ _ _
   have hD7:=HZ.out.stored hW (by rw [hcl];exact Nat.le_of_ble_eq_true rfl)
   rw [List.take_zero,List.nil_append,List.drop_of_length_le (by rw [hcl];exact Nat.le_of_ble_eq_true rfl),List.append_nil] at hD7
   have hC:=HCa.out l[k] (List.getElem_mem hkl) (H.up (Keep.below hB8) HG.out)
   rw [HD.out] at hC
   have HC:=Lib.hid hC
   have HD7:=Lib.hid hD7
   have HBn:=Lib.hid hB7
   clear hW hB7 hB8 hD7 hC HZ HRG HG
   go_wp2_with (refine wpList_load_mid rfl 108 _ rfl wr.heap.size 0 rfl c _ (HD7.out.range (n:=23) (by rw [List.drop_zero];exact List.take_of_length_le (by omega))) Tryz.underlying108 rfl hsz ?_)
   refine HC.out.mono ?_
   rintro e w9 ⟨rfl,hb⟩
   have HB9:=Lib.hid (HBn.out.trans (hb.mono HBn.out.size))
   have HM9:Hid (mx mm dv=fo d (l.take (k + 1))):=by show _=_;rw [fo_take hkl,HM.out,HD.out]
   clear hb HC HBn HB
   go_wp2
   refine ⟨⟨k + 1,mx mm dv,rfl,by simp,by omega,HM9,HB9⟩,?_⟩
   simp [intOf]
   omega
  ·have hk3:k=N:=by omega
   subst hk3
   have HF:Hid (mm=fo d l):=by show _=_;rw [HM.out,List.take_of_length_le (by rw [HN.out];exact Nat.le_refl _)]
   go_wp2
   go_ret
   exact ⟨by rw [HF.out];rfl,HB.out⟩

set_option maxHeartbeats 4000000 in
set_option maxRecDepth 1000000 in
theorem deepDcl {A:Type} {G:(Nat→Prop)→World→A→List Value→Prop} (d:A→Int) (H:One G 4) {P:Nat→Prop} (l:List A) {w:World} {v:Value} {flat:List Value} (g:Nat) (eg:∀ args w,(callFunc g args).run Tryz.prog w=.ok (.enter g args) w)
  (hcall:∀ a ∈ l,∀ {P:Nat→Prop} {w:World} {c:List Value},G P w a c→Calls Tryz.prog g #[.agg c.toArray] w fun e w'=>e=.returned (.int .i64 (d a))∧Below w.heap.size w w') (hr:RowL P w 4 v l.length flat) (hf:LsF G P w l flat):
  Calls Tryz.prog 59 #[v,.func (.func g) #[] #[]] w fun e w'=>e=.returned (.int .i64 (fo d l))∧Below w.heap.size w w':=by
 obtain ⟨va,vc,rfl,hc1,hc2,_⟩:=hr.form
 obtain ⟨N,hN⟩:∃ N,l.length=N:=⟨_,rfl⟩
 rw [hN] at hr hc1 ⊢
 have HR:=Lib.hid hr
 have HFl:=Lib.hid hf
 have HCa:=Lib.hid hcall
 have HN:=Lib.hid hN
 clear hr hf hcall hN
 go_enter Tryz.func59,Tryz.ntmps59
 go_wp2
 go_loopw [5,10] (fun m i wx=>∃ (k:Nat) (mm:Int),m=.int .i64 mm∧i=.int .i64 (k:Int)∧k ≤ N∧Hid (mm=fo d (l.take k))∧Hid (Below w.heap.size w wx)) (fun _ i _=>N - (intOf i).toNat)
 case atStart=>exact ⟨0,0,rfl,rfl,Nat.zero_le _,rfl,Below.refl _ _⟩
 case round=>
  obtain ⟨k,mm,hm,hi,hk,HM,HB⟩:=hrel
  subst hm hi
  by_cases hkn:k < N
  ·have hk2:(k:Int) < (N:Int):=by omega
   have hk0:(0:Int) ≤ (k:Int):=by omega
   have hwk:IntKind.i64.wrap (k:Int)=(k:Int):=by rw [IntKind.wrap_i64];omega
   have hwk1:IntKind.i64.wrap ((k:Int) + 1)=(k:Int) + 1:=by rw [IntKind.wrap_i64];omega
   have hkl:k < l.length:=by rw [HN.out];exact hkn
   obtain ⟨a2,c2,h1,_,_,h4,_,h6⟩:=HR.out.up (Keep.below HB.out)
   injection h1 with h1 _ h2
   subst h1 h2
   obtain ⟨gb,ob,cs,tb,h1,_,hH,hcs⟩:=h6 (by omega)
   subst h1
   obtain ⟨c,hG,hfc⟩:=LsF.at (fun a c=>H.len) hkl (LsF.up (fun a c=>H.up (Keep.below HB.out)) l HFl.out)
   have hcl:=H.len hG
   have hrg:wr.rangeAt gb (ob + k * 4) c:=fun j u hj=>by
    have hj2:j < 4:=by have:=(List.getElem?_eq_some_iff.1 hj).1;omega
    rw [hH.cell,Nat.add_assoc,hcs (k * 4 + j) (by omega),hfc j hj2]
    exact hj
   have HO:=Lib.hid (H.one hG)
   have hsz:(Tryz.prog.info? 50).map (·.size)=some c.length:=by rw [hcl];exact sz_Dcl
   have hZ:Holds (wr.alloc (.cells #[.int .i64 0,.string ⟨#[]⟩,.slice none 0 0,.int .i64 0] 50)) wr.heap.size 50 [.int .i64 0,.string ⟨#[]⟩,.slice none 0 0,.int .i64 0]:=Holds.new wr 50 #[.int .i64 0,.string ⟨#[]⟩,.slice none 0 0,.int .i64 0]
   have HZ:=Lib.hid hZ
   have HRG:=Lib.hid hrg
   have HG:=Lib.hid hG
   clear h4 h6 hH hcs hG hfc hrg hZ
   obtain ⟨dv,hdv⟩:∃ x,d l[k]=x:=⟨_,rfl⟩
   have HD:=Lib.hid hdv
   clear hdv
   go_wp2_with (first | (refine wpList_load_mid rfl 50 _ rfl gb (ob + k * 4) rfl c _ HRG.out Tryz.underlying50 rfl hsz ?_) | (refine wpList_storeB rfl 50 _ _ rfl wr.heap.size 0 c rfl rfl HZ.out (by rw [hcl];exact Nat.le_of_ble_eq_true rfl) hsz HO.out ?_))
   refine Named.mk (fun w7 hW=>?_)
   have hB7:Below w.heap.size w w7:=by rw [hW];exact Below.far HB.out HB.out.size _ _ _
   have hB8:Below wr.heap.size wr w7:=by rw [hW];exact Below.far (Below.refl _ _) (Nat.le_refl _) _ _ _
   have hD7:=HZ.out.stored hW (by rw [hcl];exact Nat.le_of_ble_eq_true rfl)
   rw [List.take_zero,List.nil_append,List.drop_of_length_le (by rw [hcl];exact Nat.le_of_ble_eq_true rfl),List.append_nil] at hD7
   have hC:=HCa.out l[k] (List.getElem_mem hkl) (H.up (Keep.below hB8) HG.out)
   rw [HD.out] at hC
   have HC:=Lib.hid hC
   have HD7:=Lib.hid hD7
   have HBn:=Lib.hid hB7
   clear hW hB7 hB8 hD7 hC HZ HRG HG
   go_wp2_with (refine wpList_load_mid rfl 50 _ rfl wr.heap.size 0 rfl c _ (HD7.out.range (n:=4) (by rw [List.drop_zero];exact List.take_of_length_le (by omega))) Tryz.underlying50 rfl hsz ?_)
   refine HC.out.mono ?_
   rintro e w9 ⟨rfl,hb⟩
   have HB9:=Lib.hid (HBn.out.trans (hb.mono HBn.out.size))
   have HM9:Hid (mx mm dv=fo d (l.take (k + 1))):=by show _=_;rw [fo_take hkl,HM.out,HD.out]
   clear hb HC HBn HB
   go_wp2
   refine ⟨⟨k + 1,mx mm dv,rfl,by simp,by omega,HM9,HB9⟩,?_⟩
   simp [intOf]
   omega
  ·have hk3:k=N:=by omega
   subst hk3
   have HF:Hid (mm=fo d l):=by show _=_;rw [HM.out,List.take_of_length_le (by rw [HN.out];exact Nat.le_refl _)]
   go_wp2
   go_ret
   exact ⟨by rw [HF.out];rfl,HB.out⟩

set_option maxHeartbeats 4000000 in
set_option maxRecDepth 1000000 in
theorem deepStm {A:Type} {G:(Nat→Prop)→World→A→List Value→Prop} (d:A→Int) (H:One G 28) {P:Nat→Prop} (l:List A) {w:World} {v:Value} {flat:List Value} (g:Nat) (eg:∀ args w,(callFunc g args).run Tryz.prog w=.ok (.enter g args) w)
  (hcall:∀ a ∈ l,∀ {P:Nat→Prop} {w:World} {c:List Value},G P w a c→Calls Tryz.prog g #[.agg c.toArray] w fun e w'=>e=.returned (.int .i64 (d a))∧Below w.heap.size w w') (hr:RowL P w 28 v l.length flat) (hf:LsF G P w l flat):
  Calls Tryz.prog 60 #[v,.func (.func g) #[] #[]] w fun e w'=>e=.returned (.int .i64 (fo d l))∧Below w.heap.size w w':=by
 obtain ⟨va,vc,rfl,hc1,hc2,_⟩:=hr.form
 obtain ⟨N,hN⟩:∃ N,l.length=N:=⟨_,rfl⟩
 rw [hN] at hr hc1 ⊢
 have HR:=Lib.hid hr
 have HFl:=Lib.hid hf
 have HCa:=Lib.hid hcall
 have HN:=Lib.hid hN
 clear hr hf hcall hN
 go_enter Tryz.func60,Tryz.ntmps60
 go_wp2
 go_loopw [5,10] (fun m i wx=>∃ (k:Nat) (mm:Int),m=.int .i64 mm∧i=.int .i64 (k:Int)∧k ≤ N∧Hid (mm=fo d (l.take k))∧Hid (Below w.heap.size w wx)) (fun _ i _=>N - (intOf i).toNat)
 case atStart=>exact ⟨0,0,rfl,rfl,Nat.zero_le _,rfl,Below.refl _ _⟩
 case round=>
  obtain ⟨k,mm,hm,hi,hk,HM,HB⟩:=hrel
  subst hm hi
  by_cases hkn:k < N
  ·have hk2:(k:Int) < (N:Int):=by omega
   have hk0:(0:Int) ≤ (k:Int):=by omega
   have hwk:IntKind.i64.wrap (k:Int)=(k:Int):=by rw [IntKind.wrap_i64];omega
   have hwk1:IntKind.i64.wrap ((k:Int) + 1)=(k:Int) + 1:=by rw [IntKind.wrap_i64];omega
   have hkl:k < l.length:=by rw [HN.out];exact hkn
   obtain ⟨a2,c2,h1,_,_,h4,_,h6⟩:=HR.out.up (Keep.below HB.out)
   injection h1 with h1 _ h2
   subst h1 h2
   obtain ⟨gb,ob,cs,tb,h1,_,hH,hcs⟩:=h6 (by omega)
   subst h1
   obtain ⟨c,hG,hfc⟩:=LsF.at (fun a c=>H.len) hkl (LsF.up (fun a c=>H.up (Keep.below HB.out)) l HFl.out)
   have hcl:=H.len hG
   have hrg:wr.rangeAt gb (ob + k * 28) c:=fun j u hj=>by
    have hj2:j < 28:=by have:=(List.getElem?_eq_some_iff.1 hj).1;omega
    rw [hH.cell,Nat.add_assoc,hcs (k * 28 + j) (by omega),hfc j hj2]
    exact hj
   have HO:=Lib.hid (H.one hG)
   have hsz:(Tryz.prog.info? 57).map (·.size)=some c.length:=by rw [hcl];exact sz_Stm
   have hZ:Holds (wr.alloc (.cells #[.int .i64 0,.int .i64 0,.string ⟨#[]⟩,.string ⟨#[]⟩,.int .i64 0,.bool false,.bool false,.bool false,.slice none 0 0,.slice none 0 0,.slice none 0 0,.int .i64 0,.int .i64 0,.string ⟨#[]⟩,.string ⟨#[]⟩,.slice none 0 0,.slice none 0 0,.slice none 0 0,.slice none 0 0,.slice none 0 0,.slice none 0 0,.slice none 0 0,.int .i64 0,.string ⟨#[]⟩,.slice none 0 0,.int .i64 0,.slice none 0 0,.slice none 0 0] 57)) wr.heap.size 57 [.int .i64 0,.int .i64 0,.string ⟨#[]⟩,.string ⟨#[]⟩,.int .i64 0,.bool false,.bool false,.bool false,.slice none 0 0,.slice none 0 0,.slice none 0 0,.int .i64 0,.int .i64 0,.string ⟨#[]⟩,.string ⟨#[]⟩,.slice none 0 0,.slice none 0 0,.slice none 0 0,.slice none 0 0,.slice none 0 0,.slice none 0 0,.slice none 0 0,.int .i64 0,.string ⟨#[]⟩,.slice none 0 0,.int .i64 0,.slice none 0 0,.slice none 0 0]:=Holds.new wr 57 #[.int .i64 0,.int .i64 0,.string ⟨#[]⟩,.string ⟨#[]⟩,.int .i64 0,.bool false,.bool false,.bool false,.slice none 0 0,.slice none 0 0,.slice none 0 0,.int .i64 0,.int .i64 0,.string ⟨#[]⟩,.string ⟨#[]⟩,.slice none 0 0,.slice none 0 0,.slice none 0 0,.slice none 0 0,.slice none 0 0,.slice none 0 0,.slice none 0 0,.int .i64 0,.string ⟨#[]⟩,.slice none 0 0,.int .i64 0,.slice none 0 0,.slice none 0 0]
   have HZ:=Lib.hid hZ
   have HRG:=Lib.hid hrg
   have HG:=Lib.hid hG
   clear h4 h6 hH hcs hG hfc hrg hZ
   obtain ⟨dv,hdv⟩:∃ x,d l[k]=x:=⟨_,rfl⟩
   have HD:=Lib.hid hdv
   clear hdv
   go_wp2_with (first | (refine wpList_load_mid rfl 57 _ rfl gb (ob + k * 28) rfl c _ HRG.out Tryz.underlying57 rfl hsz ?_) | (refine wpList_storeB rfl 57 _ _ rfl wr.heap.size 0 c rfl rfl HZ.out (by rw [hcl];exact Nat.le_of_ble_eq_true rfl) hsz HO.out ?_))
   refine Named.mk (fun w7 hW=>?_)
   have hB7:Below w.heap.size w w7:=by rw [hW];exact Below.far HB.out HB.out.size _ _ _
   have hB8:Below wr.heap.size wr w7:=by rw [hW];exact Below.far (Below.refl _ _) (Nat.le_refl _) _ _ _
   have hD7:=HZ.out.stored hW (by rw [hcl];exact Nat.le_of_ble_eq_true rfl)
   rw [List.take_zero,List.nil_append,List.drop_of_length_le (by rw [hcl];exact Nat.le_of_ble_eq_true rfl),List.append_nil] at hD7
   have hC:=HCa.out l[k] (List.getElem_mem hkl) (H.up (Keep.below hB8) HG.out)
   rw [HD.out] at hC
   have HC:=Lib.hid hC
   have HD7:=Lib.hid hD7
   have HBn:=Lib.hid hB7
   clear hW hB7 hB8 hD7 hC HZ HRG HG
   go_wp2_with (refine wpList_load_mid rfl 57 _ rfl wr.heap.size 0 rfl c _ (HD7.out.range (n:=28) (by rw [List.drop_zero];exact List.take_of_length_le (by omega))) Tryz.underlying57 rfl hsz ?_)
   refine HC.out.mono ?_
   rintro e w9 ⟨rfl,hb⟩
   have HB9:=Lib.hid (HBn.out.trans (hb.mono HBn.out.size))
   have HM9:Hid (mx mm dv=fo d (l.take (k + 1))):=by show _=_;rw [fo_take hkl,HM.out,HD.out]
   clear hb HC HBn HB
   go_wp2
   refine ⟨⟨k + 1,mx mm dv,rfl,by simp,by omega,HM9,HB9⟩,?_⟩
   simp [intOf]
   omega
  ·have hk3:k=N:=by omega
   subst hk3
   have HF:Hid (mm=fo d l):=by show _=_;rw [HM.out,List.take_of_length_le (by rw [HN.out];exact Nat.le_refl _)]
   go_wp2
   go_ret
   exact ⟨by rw [HF.out];rfl,HB.out⟩

set_option maxHeartbeats 4000000 in
set_option maxRecDepth 1000000 in
theorem deepUnt {A:Type} {G:(Nat→Prop)→World→A→List Value→Prop} (d:A→Int) (H:One G 21) {P:Nat→Prop} (l:List A) {w:World} {v:Value} {flat:List Value} (g:Nat) (eg:∀ args w,(callFunc g args).run Tryz.prog w=.ok (.enter g args) w)
  (hcall:∀ a ∈ l,∀ {P:Nat→Prop} {w:World} {c:List Value},G P w a c→Calls Tryz.prog g #[.agg c.toArray] w fun e w'=>e=.returned (.int .i64 (d a))∧Below w.heap.size w w') (hr:RowL P w 21 v l.length flat) (hf:LsF G P w l flat):
  Calls Tryz.prog 20 #[v,.func (.func g) #[] #[]] w fun e w'=>e=.returned (.int .i64 (fo d l))∧Below w.heap.size w w':=by
 obtain ⟨va,vc,rfl,hc1,hc2,_⟩:=hr.form
 obtain ⟨N,hN⟩:∃ N,l.length=N:=⟨_,rfl⟩
 rw [hN] at hr hc1 ⊢
 have HR:=Lib.hid hr
 have HFl:=Lib.hid hf
 have HCa:=Lib.hid hcall
 have HN:=Lib.hid hN
 clear hr hf hcall hN
 go_enter Tryz.func20,Tryz.ntmps20
 go_wp2
 go_loopw [5,10] (fun m i wx=>∃ (k:Nat) (mm:Int),m=.int .i64 mm∧i=.int .i64 (k:Int)∧k ≤ N∧Hid (mm=fo d (l.take k))∧Hid (Below w.heap.size w wx)) (fun _ i _=>N - (intOf i).toNat)
 case atStart=>exact ⟨0,0,rfl,rfl,Nat.zero_le _,rfl,Below.refl _ _⟩
 case round=>
  obtain ⟨k,mm,hm,hi,hk,HM,HB⟩:=hrel
  subst hm hi
  by_cases hkn:k < N
  ·have hk2:(k:Int) < (N:Int):=by omega
   have hk0:(0:Int) ≤ (k:Int):=by omega
   have hwk:IntKind.i64.wrap (k:Int)=(k:Int):=by rw [IntKind.wrap_i64];omega
   have hwk1:IntKind.i64.wrap ((k:Int) + 1)=(k:Int) + 1:=by rw [IntKind.wrap_i64];omega
   have hkl:k < l.length:=by rw [HN.out];exact hkn
   obtain ⟨a2,c2,h1,_,_,h4,_,h6⟩:=HR.out.up (Keep.below HB.out)
   injection h1 with h1 _ h2
   subst h1 h2
   obtain ⟨gb,ob,cs,tb,h1,_,hH,hcs⟩:=h6 (by omega)
   subst h1
   obtain ⟨c,hG,hfc⟩:=LsF.at (fun a c=>H.len) hkl (LsF.up (fun a c=>H.up (Keep.below HB.out)) l HFl.out)
   have hcl:=H.len hG
   have hrg:wr.rangeAt gb (ob + k * 21) c:=fun j u hj=>by
    have hj2:j < 21:=by have:=(List.getElem?_eq_some_iff.1 hj).1;omega
    rw [hH.cell,Nat.add_assoc,hcs (k * 21 + j) (by omega),hfc j hj2]
    exact hj
   have HO:=Lib.hid (H.one hG)
   have hsz:(Tryz.prog.info? 54).map (·.size)=some c.length:=by rw [hcl];exact sz_Unt
   have hZ:Holds (wr.alloc (.cells #[.int .i64 0,.int .i64 0,.string ⟨#[]⟩,.string ⟨#[]⟩,.slice none 0 0,.bool false,.int .i64 0,.int .i64 0,.string ⟨#[]⟩,.string ⟨#[]⟩,.slice none 0 0,.slice none 0 0,.slice none 0 0,.slice none 0 0,.slice none 0 0,.int .i64 0,.string ⟨#[]⟩,.slice none 0 0,.int .i64 0,.slice none 0 0,.slice none 0 0] 54)) wr.heap.size 54 [.int .i64 0,.int .i64 0,.string ⟨#[]⟩,.string ⟨#[]⟩,.slice none 0 0,.bool false,.int .i64 0,.int .i64 0,.string ⟨#[]⟩,.string ⟨#[]⟩,.slice none 0 0,.slice none 0 0,.slice none 0 0,.slice none 0 0,.slice none 0 0,.int .i64 0,.string ⟨#[]⟩,.slice none 0 0,.int .i64 0,.slice none 0 0,.slice none 0 0]:=Holds.new wr 54 #[.int .i64 0,.int .i64 0,.string ⟨#[]⟩,.string ⟨#[]⟩,.slice none 0 0,.bool false,.int .i64 0,.int .i64 0,.string ⟨#[]⟩,.string ⟨#[]⟩,.slice none 0 0,.slice none 0 0,.slice none 0 0,.slice none 0 0,.slice none 0 0,.int .i64 0,.string ⟨#[]⟩,.slice none 0 0,.int .i64 0,.slice none 0 0,.slice none 0 0]
   have HZ:=Lib.hid hZ
   have HRG:=Lib.hid hrg
   have HG:=Lib.hid hG
   clear h4 h6 hH hcs hG hfc hrg hZ
   obtain ⟨dv,hdv⟩:∃ x,d l[k]=x:=⟨_,rfl⟩
   have HD:=Lib.hid hdv
   clear hdv
   go_wp2_with (first | (refine wpList_load_mid rfl 54 _ rfl gb (ob + k * 21) rfl c _ HRG.out Tryz.underlying54 rfl hsz ?_) | (refine wpList_storeB rfl 54 _ _ rfl wr.heap.size 0 c rfl rfl HZ.out (by rw [hcl];exact Nat.le_of_ble_eq_true rfl) hsz HO.out ?_))
   refine Named.mk (fun w7 hW=>?_)
   have hB7:Below w.heap.size w w7:=by rw [hW];exact Below.far HB.out HB.out.size _ _ _
   have hB8:Below wr.heap.size wr w7:=by rw [hW];exact Below.far (Below.refl _ _) (Nat.le_refl _) _ _ _
   have hD7:=HZ.out.stored hW (by rw [hcl];exact Nat.le_of_ble_eq_true rfl)
   rw [List.take_zero,List.nil_append,List.drop_of_length_le (by rw [hcl];exact Nat.le_of_ble_eq_true rfl),List.append_nil] at hD7
   have hC:=HCa.out l[k] (List.getElem_mem hkl) (H.up (Keep.below hB8) HG.out)
   rw [HD.out] at hC
   have HC:=Lib.hid hC
   have HD7:=Lib.hid hD7
   have HBn:=Lib.hid hB7
   clear hW hB7 hB8 hD7 hC HZ HRG HG
   go_wp2_with (refine wpList_load_mid rfl 54 _ rfl wr.heap.size 0 rfl c _ (HD7.out.range (n:=21) (by rw [List.drop_zero];exact List.take_of_length_le (by omega))) Tryz.underlying54 rfl hsz ?_)
   refine HC.out.mono ?_
   rintro e w9 ⟨rfl,hb⟩
   have HB9:=Lib.hid (HBn.out.trans (hb.mono HBn.out.size))
   have HM9:Hid (mx mm dv=fo d (l.take (k + 1))):=by show _=_;rw [fo_take hkl,HM.out,HD.out]
   clear hb HC HBn HB
   go_wp2
   refine ⟨⟨k + 1,mx mm dv,rfl,by simp,by omega,HM9,HB9⟩,?_⟩
   simp [intOf]
   omega
  ·have hk3:k=N:=by omega
   subst hk3
   have HF:Hid (mm=fo d l):=by show _=_;rw [HM.out,List.take_of_length_le (by rw [HN.out];exact Nat.le_refl _)]
   go_wp2
   go_ret
   exact ⟨by rw [HF.out];rfl,HB.out⟩

set_option maxHeartbeats 4000000 in
set_option maxRecDepth 1000000 in
theorem deepOpts {A:Type} {G:(Nat→Prop)→World→A→List Value→Prop} (d:A→Int) (H:One G 1) {P:Nat→Prop} (l:List A) {w:World} {v:Value} {flat:List Value} (g:Nat) (eg:∀ args w,(callFunc g args).run Tryz.prog w=.ok (.enter g args) w)
  (hsl:∀ {P:Nat→Prop} {w:World} {a:A} {c:List Value},G P w a c→∃ q m k,c=[.slice q m k]) (hcall:∀ a ∈ l,∀ {P:Nat→Prop} {w:World} {u:Value},G P w a [u]→Calls Tryz.prog g #[u] w fun e w'=>e=.returned (.int .i64 (d a))∧Below w.heap.size w w') (hr:RowL P w 1 v l.length flat) (hf:LsF G P w l flat):
  Calls Tryz.prog 110 #[v,.func (.func g) #[] #[]] w fun e w'=>e=.returned (.int .i64 (fo d l))∧Below w.heap.size w w':=by
 obtain ⟨va,vc,rfl,hc1,hc2,_⟩:=hr.form
 obtain ⟨N,hN⟩:∃ N,l.length=N:=⟨_,rfl⟩
 rw [hN] at hr hc1 ⊢
 have HR:=Lib.hid hr
 have HFl:=Lib.hid hf
 have HCa:=Lib.hid hcall
 have HN:=Lib.hid hN
 clear hr hf hcall hN
 go_enter Tryz.func110,Tryz.ntmps110
 go_wp2
 go_loopw [5,10] (fun m i wx=>∃ (k:Nat) (mm:Int),m=.int .i64 mm∧i=.int .i64 (k:Int)∧k ≤ N∧Hid (mm=fo d (l.take k))∧Hid (Below w.heap.size w wx)) (fun _ i _=>N - (intOf i).toNat)
 case atStart=>exact ⟨0,0,rfl,rfl,Nat.zero_le _,rfl,Below.refl _ _⟩
 case round=>
  obtain ⟨k,mm,hm,hi,hk,HM,HB⟩:=hrel
  subst hm hi
  by_cases hkn:k < N
  ·have hk2:(k:Int) < (N:Int):=by omega
   have hk0:(0:Int) ≤ (k:Int):=by omega
   have hwk:IntKind.i64.wrap (k:Int)=(k:Int):=by rw [IntKind.wrap_i64];omega
   have hwk1:IntKind.i64.wrap ((k:Int) + 1)=(k:Int) + 1:=by rw [IntKind.wrap_i64];omega
   have hkl:k < l.length:=by rw [HN.out];exact hkn
   obtain ⟨a2,c2,h1,_,_,h4,_,h6⟩:=HR.out.up (Keep.below HB.out)
   injection h1 with h1 _ h2
   subst h1 h2
   obtain ⟨gb,ob,cs,tb,h1,_,hH,hcs⟩:=h6 (by omega)
   subst h1
   obtain ⟨c,hG,hfc⟩:=LsF.at (fun a c=>H.len) hkl (LsF.up (fun a c=>H.up (Keep.below HB.out)) l HFl.out)
   have hcl:=H.len hG
   have hrg:wr.rangeAt gb (ob + k * 1) c:=fun j u hj=>by
    have hj2:j < 1:=by have:=(List.getElem?_eq_some_iff.1 hj).1;omega
    rw [hH.cell,Nat.add_assoc,hcs (k * 1 + j) (by omega),hfc j hj2]
    exact hj
   obtain ⟨sq,sm,sk,rfl⟩:=hsl hG
   have c0:wr.cell? ⟨gb,ob + k,none⟩=some (.slice sq sm sk):=by have:=hrg 0 _ rfl;simpa using this
   have HC:=Lib.hid (HCa.out l[k] (List.getElem_mem hkl) hG)
   have HBn:=Lib.hid HB.out
   clear h4 h6 hH hcs hG hfc hcl hrg
   obtain ⟨dv,hdv⟩:∃ x,d l[k]=x:=⟨_,rfl⟩
   rw [hdv] at HC
   have HD:=Lib.hid hdv
   clear hdv
   go_wp2_with (fail)
   refine HC.out.mono ?_
   rintro e w9 ⟨rfl,hb⟩
   have HB9:=Lib.hid (HBn.out.trans (hb.mono HBn.out.size))
   have HM9:Hid (mx mm dv=fo d (l.take (k + 1))):=by show _=_;rw [fo_take hkl,HM.out,HD.out]
   clear hb HC HBn HB
   go_wp2
   refine ⟨⟨k + 1,mx mm dv,rfl,by simp,by omega,HM9,HB9⟩,?_⟩
   simp [intOf]
   omega
  ·have hk3:k=N:=by omega
   subst hk3
   have HF:Hid (mm=fo d l):=by show _=_;rw [HM.out,List.take_of_length_le (by rw [HN.out];exact Nat.le_refl _)]
   go_wp2
   go_ret
   exact ⟨by rw [HF.out];rfl,HB.out⟩

end Go.Proofs.YtpoghableadkcaaGreatDoor
