/- A region that reads a text by Expr into two new boxes, its allocs in any order. -/
import Derived.Test.YtpoghableadkcaaGreatDoorInv
import Derived.Test.YtpoghableadkcaaGreatDoorM22
namespace Go.Proofs.YtpoghableadkcaaGreatDoor
open Go.RowKit
set_option linter.unusedVariables false
set_option linter.unusedSimpArgs false

theorem gd_ne {L:Array Bool} {i j:Nat} (h:j ≠ i):(L.setIfInBounds i true).getD j false=L.getD j false:=by
 simp [Array.getD_eq_getD_getElem?,Array.getElem?_setIfInBounds_ne (Ne.symm h)]
theorem gd_eq {L:Array Bool} {i:Nat} (h:i < L.size):(L.setIfInBounds i true).getD i false=true:=by
 simp [Array.getD_eq_getD_getElem?,h]
def zeroA:List Value:=[.int .i64 0,.int .i64 0,.string ⟨#[]⟩,.string ⟨#[]⟩,.slice none 0 0,.slice none 0 0,.slice none 0 0,.slice none 0 0,.slice none 0 0]
/-- What operation j yields. -/
def lvVal (pv:Nat→Value) (xs:List Value) (b1 b2 j:Nat):Value:=
 if j=12∨j=13 then .tuple #[.agg xs.toArray,mish 0 0]
 else if j=14 then .agg xs.toArray
 else if j=15 then mish 0 0
 else if j=16 then .pointer (some ⟨b1,0,none⟩)
 else if j=17 then .pointer (some ⟨b2,0,none⟩)
 else pv j
structure LvW (w0:World) (x:Ast) (xs:List Value) (b1 b2:Nat) (L:Array Bool) (w:World):Prop where
 below:Below w0.heap.size w0 w
 told:L.getD 12 false=true→AstG (fun k=>k ≠ b1∧k ≠ b2) w x xs
 box1:L.getD 16 false=true→w0.heap.size ≤ b1∧Holds w b1 41 (if L.getD 18 false then xs else zeroA)
 box2:L.getD 17 false=true→w0.heap.size ≤ b2∧Holds w b2 26 [.int .i64 0,.int .i64 0]
 far1:L.getD 16 false=false→w.heap.size ≤ b1
 far2:L.getD 17 false=false→w.heap.size ≤ b2
 ne:b1 ≠ b2
 wait:L.getD 12 false=false→L.getD 13 false=false∧L.getD 14 false=false∧L.getD 15 false=false∧L.getD 18 false=false
 wait1:L.getD 16 false=false→L.getD 18 false=false
structure LvA (w0:World) (a0:Act) (x:Ast) (sl:List Nat) (pv:Nat→Value) (xs:List Value) (b1 b2:Nat) (L:Array Bool) (a:Act) (w:World):Prop where
 defs:a.defers=a0.defers
 size:a.tmps.size=a0.tmps.size
 keep:∀ y,sl.contains y=false→a.tmps[y]?=a0.tmps[y]?
 slots:∀ j y,sl[j]?=some y→L.getD j false=true→a.tmps[y]?=some (lvVal pv xs b1 b2 j)
 w:LvW w0 x xs b1 b2 L w
section
variable {w0 w:World} {a0 a:Act} {x:Ast} {sl:List Nat} {pv:Nat→Value} {xs:List Value} {b1 b2:Nat} {L:Array Bool}
/-- The frame's part of a step. -/
theorem LvA.frame (h:LvA w0 a0 x sl pv xs b1 b2 L a w) (hL:L.size=20) {i d:Nat} {xs':List Value} {b1' b2':Nat} {w':World} (hi:i < 20) (hd:sl[i]?=some d) (hn:sl.Nodup) (hlt:d < a0.tmps.size)
  (hs:∀ j,j ≠ i→L.getD j false=true→lvVal pv xs' b1' b2' j=lvVal pv xs b1 b2 j) (hw:LvW w0 x xs' b1' b2' (L.setIfInBounds i true) w'):
  LvA w0 a0 x sl pv xs' b1' b2' (L.setIfInBounds i true) (a.put (some d) (lvVal pv xs' b1' b2' i)) w':=by
 refine ⟨h.defs,by simp [Act.put,h.size],fun y hy=>?_,fun j y hj hLj=>?_,hw⟩
 ·have hne:d ≠ y:=by
   rintro rfl
   have:sl.contains d=true:=List.contains_iff_mem.2 (List.mem_of_getElem? hd)
   rw [this] at hy;cases hy
  rw [← h.keep y hy]
  simp [Act.put,Array.getElem?_setIfInBounds_ne hne]
 ·by_cases hji:j=i
  ·subst hji
   rw [hd] at hj
   injection hj with hj
   subst hj
   simp [Act.put,h.size,hlt]
  ·have hne:d ≠ y:=by
    rintro rfl
    exact hji (((List.getElem?_inj (by have:=(List.getElem?_eq_some_iff.1 hj).1;exact this) hn).1 (hj.trans hd.symm)))
   rw [gd_ne hji] at hLj
   rw [hs j hji hLj,← h.slots j y hj hLj]
   simp [Act.put,Array.getElem?_setIfInBounds_ne hne]
/-- A step that only looks. -/
theorem LvA.put (h:LvA w0 a0 x sl pv xs b1 b2 L a w) (hL:L.size=20) {i d:Nat} (hi:i < 16) (h12:i ≠ 12) (hd:sl[i]?=some d) (hn:sl.Nodup) (hlt:d < a0.tmps.size) (hdep:12 < i→L.getD 12 false=true):
  LvA w0 a0 x sl pv xs b1 b2 (L.setIfInBounds i true) (a.put (some d) (lvVal pv xs b1 b2 i)) w:=by
 have g:∀ j,j ≠ i→(L.setIfInBounds i true).getD j false=L.getD j false:=fun j hj=>gd_ne hj
 refine h.frame hL (by omega) hd hn hlt (fun _ _ _=>rfl) ⟨h.w.below,fun k=>h.w.told (by rwa [g 12 (Ne.symm h12)] at k),fun k=>?_,fun k=>h.w.box2 (by rwa [g 17 (by omega)] at k),fun k=>h.w.far1 (by rwa [g 16 (by omega)] at k),fun k=>h.w.far2 (by rwa [g 17 (by omega)] at k),h.w.ne,fun k=>?_,fun k=>?_⟩
 ·rw [g 16 (by omega)] at k
  rw [g 18 (by omega)]
  exact h.w.box1 k
 ·rw [g 12 (Ne.symm h12)] at k
  have hi12:i < 12:=by
   rcases Nat.lt_or_ge 12 i with h' | h'
   ·rw [hdep h'] at k;cases k
   ·omega
  rw [g 13 (by omega),g 14 (by omega),g 15 (by omega),g 18 (by omega)]
  exact h.w.wait k
 ·rw [g 16 (by omega)] at k
  rw [g 18 (by omega)]
  exact h.w.wait1 k
theorem ite_t {A:Type} {p:Bool} {u v:A} (h:p=true):(if p then u else v)=u:=by rw [h];rfl
theorem ite_f {A:Type} {p:Bool} {u v:A} (h:p=false):(if p then u else v)=v:=by rw [h];rfl
theorem bool_no {p:Bool} (h:¬ p=true):p=false:=by cases p <;> simp_all
/-- The text is read. -/
theorem LvA.call (h:LvA w0 a0 x sl pv xs b1 b2 L a w) (hL:L.size=20) {d:Nat} {w':World} {xs':List Value} (hd:sl[12]?=some d) (hn:sl.Nodup) (hlt:d < a0.tmps.size) (h12:L.getD 12 false=false) (hb:Below w.heap.size w w') (hv:AstG (From w.heap.size) w' x xs'):
  ∃ b1' b2',LvA w0 a0 x sl pv xs' b1' b2' (L.setIfInBounds 12 true) (a.put (some d) (.tuple #[.agg xs'.toArray,mish 0 0])) w':=by
 have g:∀ j,j ≠ 12→(L.setIfInBounds 12 true).getD j false=L.getD j false:=fun j hj=>gd_ne hj
 obtain ⟨e13,e14,e15,e18⟩:=h.w.wait h12
 have hsz:=hb.size
 refine ⟨if L.getD 16 false then b1 else w'.heap.size,if L.getD 17 false then b2 else w'.heap.size + 1,?_⟩
 have hl1:L.getD 16 false=true→b1 < w.heap.size:=fun k=>(h.w.box1 k).2.lt
 have hl2:L.getD 17 false=true→b2 < w.heap.size:=fun k=>(h.w.box2 k).2.lt
 refine h.frame hL (i:=12) (xs':=xs') (by omega) hd hn hlt (fun j hj hLj=>?_) ⟨h.w.below.trans (hb.mono h.w.below.size),fun _=>?_,fun k=>?_,fun k=>?_,fun k=>?_,fun k=>?_,?_,fun k=>?_,fun k=>?_⟩
 ·unfold lvVal
  have n13:j ≠ 13:=by rintro rfl;rw [e13] at hLj;cases hLj
  have n14:j ≠ 14:=by rintro rfl;rw [e14] at hLj;cases hLj
  have n15:j ≠ 15:=by rintro rfl;rw [e15] at hLj;cases hLj
  simp only [hj,n13,n14,n15,or_self,↓reduceIte]
  by_cases h16:j=16
  ·subst h16;rw [ite_t hLj];rfl
  ·rw [if_neg h16,if_neg h16]
   by_cases h17:j=17
   ·subst h17;rw [ite_t hLj]
   ·rw [if_neg h17,if_neg h17]
 ·obtain ⟨vn,vi,vh,vk,va,h5,h6⟩:=hv
  refine ⟨vn,vi,vh,vk,va,h5,h6.mono fun k hk hk2=>?_⟩
  have hk':w.heap.size ≤ k:=hk
  constructor
  ·by_cases h16:L.getD 16 false=true
   ·rw [ite_t h16];have:=hl1 h16;omega
   ·rw [ite_f (bool_no h16)];omega
  ·by_cases h17:L.getD 17 false=true
   ·rw [ite_t h17];have:=hl2 h17;omega
   ·rw [ite_f (bool_no h17)];omega
 ·rw [g 16 (by omega)] at k
  have hx:=(h.w.box1 k).2
  rw [ite_f e18] at hx
  rw [g 18 (by omega),ite_f e18,ite_t k]
  exact ⟨(h.w.box1 k).1,hx.belowAll hb⟩
 ·rw [g 17 (by omega)] at k
  rw [ite_t k]
  exact ⟨(h.w.box2 k).1,(h.w.box2 k).2.belowAll hb⟩
 ·rw [g 16 (by omega)] at k
  rw [ite_f k];exact Nat.le_refl _
 ·rw [g 17 (by omega)] at k
  rw [ite_f k];exact Nat.le_succ _
 ·have hne:=h.w.ne
  by_cases h16:L.getD 16 false=true
  ·have:=hl1 h16
   by_cases h17:L.getD 17 false=true
   ·rw [ite_t h16,ite_t h17];exact hne
   ·rw [ite_t h16,ite_f (bool_no h17)];omega
  ·by_cases h17:L.getD 17 false=true
   ·have:=hl2 h17
    rw [ite_f (bool_no h16),ite_t h17];omega
   ·rw [ite_f (bool_no h16),ite_f (bool_no h17)];omega
 ·rw [gd_eq (by omega)] at k;cases k
 ·rw [g 16 (by omega)] at k
  rw [g 18 (by omega)]
  exact h.w.wait1 k
/-- The first box is made. -/
theorem LvA.alloc1 (h:LvA w0 a0 x sl pv xs b1 b2 L a w) (hL:L.size=20) {d:Nat} (hd:sl[16]?=some d) (hn:sl.Nodup) (hlt:d < a0.tmps.size) (h16:L.getD 16 false=false):
  ∃ b1' b2',LvA w0 a0 x sl pv xs b1' b2' (L.setIfInBounds 16 true) (a.put (some d) (.pointer (some ⟨w.heap.size,0,none⟩))) (w.alloc (.cells zeroA.toArray 41)):=by
 have g:∀ j,j ≠ 16→(L.setIfInBounds 16 true).getD j false=L.getD j false:=fun j hj=>gd_ne hj
 have e18:=h.w.wait1 h16
 have hb:Below w.heap.size w (w.alloc (.cells zeroA.toArray 41)):=(Below.refl _ _).alloc (Nat.le_refl _) _
 have hl2:L.getD 17 false=true→b2 < w.heap.size:=fun k=>(h.w.box2 k).2.lt
 refine ⟨w.heap.size,if L.getD 17 false then b2 else w.heap.size + 1,?_⟩
 refine h.frame hL (i:=16) (xs':=xs) (by omega) hd hn hlt (fun j hj hLj=>?_) ⟨h.w.below.trans (hb.mono h.w.below.size),fun k=>?_,fun k=>?_,fun k=>?_,fun k=>?_,fun k=>?_,?_,fun k=>?_,fun k=>?_⟩
 ·unfold lvVal
  rw [if_neg hj,if_neg hj]
  by_cases h17:j=17
  ·subst h17;rw [ite_t hLj]
  ·rw [if_neg h17,if_neg h17]
 ·rw [g 12 (by omega)] at k
  obtain ⟨vn,vi,vh,vk,va,h5,h6⟩:=h.w.told k
  refine ⟨vn,vi,vh,vk,va,h5,(h6.mono (Q:=fun k=>k ≠ w.heap.size∧k ≠ if L.getD 17 false then b2 else w.heap.size + 1) fun k hk hk2=>⟨by omega,?_⟩).up (Keep.below hb)⟩
  by_cases h17:L.getD 17 false=true
  ·rw [ite_t h17];exact hk.2
  ·rw [ite_f (bool_no h17)];omega
 ·rw [g 18 (by omega),ite_f e18]
  exact ⟨h.w.below.size,Holds.new w 41 zeroA.toArray⟩
 ·rw [g 17 (by omega)] at k
  rw [ite_t k]
  exact ⟨(h.w.box2 k).1,(h.w.box2 k).2.belowAll hb⟩
 ·rw [gd_eq (by omega)] at k;cases k
 ·rw [g 17 (by omega)] at k
  rw [ite_f k];simp
 ·by_cases h17:L.getD 17 false=true
  ·rw [ite_t h17];have:=hl2 h17;omega
  ·rw [ite_f (bool_no h17)];omega
 ·rw [g 12 (by omega)] at k
  rw [g 13 (by omega),g 14 (by omega),g 15 (by omega),g 18 (by omega)]
  exact h.w.wait k
 ·rw [gd_eq (by omega)] at k;cases k
/-- The second box is made. -/
theorem LvA.alloc2 (h:LvA w0 a0 x sl pv xs b1 b2 L a w) (hL:L.size=20) {d:Nat} (hd:sl[17]?=some d) (hn:sl.Nodup) (hlt:d < a0.tmps.size) (h17:L.getD 17 false=false):
  ∃ b1' b2',LvA w0 a0 x sl pv xs b1' b2' (L.setIfInBounds 17 true) (a.put (some d) (.pointer (some ⟨w.heap.size,0,none⟩))) (w.alloc (.cells #[.int .i64 0,.int .i64 0] 26)):=by
 have g:∀ j,j ≠ 17→(L.setIfInBounds 17 true).getD j false=L.getD j false:=fun j hj=>gd_ne hj
 have hb:Below w.heap.size w (w.alloc (.cells #[.int .i64 0,.int .i64 0] 26)):=(Below.refl _ _).alloc (Nat.le_refl _) _
 have hl1:L.getD 16 false=true→b1 < w.heap.size:=fun k=>(h.w.box1 k).2.lt
 refine ⟨if L.getD 16 false then b1 else w.heap.size + 1,w.heap.size,?_⟩
 refine h.frame hL (i:=17) (xs':=xs) (by omega) hd hn hlt (fun j hj hLj=>?_) ⟨h.w.below.trans (hb.mono h.w.below.size),fun k=>?_,fun k=>?_,fun k=>?_,fun k=>?_,fun k=>?_,?_,fun k=>?_,fun k=>?_⟩
 ·unfold lvVal
  rw [if_neg hj,if_neg hj]
  by_cases h16:j=16
  ·subst h16;rw [ite_t hLj]
  ·rw [if_neg h16,if_neg h16]
 ·rw [g 12 (by omega)] at k
  obtain ⟨vn,vi,vh,vk,va,h5,h6⟩:=h.w.told k
  refine ⟨vn,vi,vh,vk,va,h5,(h6.mono (Q:=fun k=>(k ≠ if L.getD 16 false then b1 else w.heap.size + 1)∧k ≠ w.heap.size) fun k hk hk2=>⟨?_,by omega⟩).up (Keep.below hb)⟩
  by_cases h16:L.getD 16 false=true
  ·rw [ite_t h16];exact hk.1
  ·rw [ite_f (bool_no h16)];omega
 ·rw [g 16 (by omega)] at k
  rw [g 18 (by omega),ite_t k]
  exact ⟨(h.w.box1 k).1,(h.w.box1 k).2.belowAll hb⟩
 ·exact ⟨h.w.below.size,Holds.new w 26 #[.int .i64 0,.int .i64 0]⟩
 ·rw [g 16 (by omega)] at k
  rw [ite_f k];simp
 ·rw [gd_eq (by omega)] at k;cases k
 ·by_cases h16:L.getD 16 false=true
  ·rw [ite_t h16];have:=hl1 h16;omega
  ·rw [ite_f (bool_no h16)];omega
 ·rw [g 12 (by omega)] at k
  rw [g 13 (by omega),g 14 (by omega),g 15 (by omega),g 18 (by omega)]
  exact h.w.wait k
 ·rw [g 16 (by omega)] at k
  rw [g 18 (by omega)]
  exact h.w.wait1 k
/-- What is read is stored in the first box. -/
theorem LvA.store1 (h:LvA w0 a0 x sl pv xs b1 b2 L a w) (hL:L.size=20) (hsl:sl.length=18) (h18:L.getD 18 false=false) (h12:L.getD 12 false=true) (h16:L.getD 16 false=true):
  LvA w0 a0 x sl pv xs b1 b2 (L.setIfInBounds 18 true) a (setR w b1 0 xs):=by
 have g:∀ j,j ≠ 18→(L.setIfInBounds 18 true).getD j false=L.getD j false:=fun j hj=>gd_ne hj
 obtain ⟨hb0,hb1⟩:=h.w.box1 h16
 rw [ite_f h18] at hb1
 have hlen:=(oneAst.1 (h.w.told h12))
 have hF:=Fp.selfR xs 0 (Fp.refl b1 w)
 refine ⟨h.defs,h.size,h.keep,fun j y hj hLj=>?_,⟨h.w.below.trans (hF.to_below h.w.below.size fun k hk e=>by omega),fun k=>?_,fun k=>?_,fun k=>?_,fun k=>?_,fun k=>?_,h.w.ne,fun k=>?_,fun k=>?_⟩⟩
 ·have:j ≠ 18:=by rintro rfl;rw [List.getElem?_eq_none (by omega)] at hj;cases hj
  rw [g j this] at hLj
  exact h.slots j y hj hLj
 ·obtain ⟨vn,vi,vh,vk,va,h5,h6⟩:=h.w.told h12
  exact ⟨vn,vi,vh,vk,va,h5,h6.up (Keep.setR (fun hk=>hk.1 rfl) xs 0)⟩
 ·rw [gd_eq (by omega),ite_t rfl]
  have:=Holds.setR xs 0 hb1
  rw [putR_all (by rw [hlen];rfl)] at this
  exact ⟨hb0,this⟩
 ·rw [g 17 (by omega)] at k
  exact ⟨(h.w.box2 k).1,Holds.farR (Ne.symm h.w.ne) _ _ (h.w.box2 k).2⟩
 ·rw [g 16 (by omega),h16] at k;cases k
 ·rw [g 17 (by omega)] at k
  rw [setR_size];exact h.w.far2 k
 ·rw [g 12 (by omega),h12] at k;cases k
 ·rw [g 16 (by omega),h16] at k;cases k
/-- No mishap is stored in the second box. -/
theorem LvA.store2 (h:LvA w0 a0 x sl pv xs b1 b2 L a w) (hL:L.size=20) (hsl:sl.length=18) (h17:L.getD 17 false=true):
  LvA w0 a0 x sl pv xs b1 b2 (L.setIfInBounds 19 true) a (setR w b2 0 [.int .i64 0,.int .i64 0]):=by
 have g:∀ j,j ≠ 19→(L.setIfInBounds 19 true).getD j false=L.getD j false:=fun j hj=>gd_ne hj
 obtain ⟨hb0,hb1⟩:=h.w.box2 h17
 have hF:=Fp.selfR [.int .i64 0,.int .i64 0] 0 (Fp.refl b2 w)
 refine ⟨h.defs,h.size,h.keep,fun j y hj hLj=>?_,⟨h.w.below.trans (hF.to_below h.w.below.size fun k hk e=>by omega),fun k=>?_,fun k=>?_,fun k=>?_,fun k=>?_,fun k=>?_,h.w.ne,fun k=>?_,fun k=>?_⟩⟩
 ·have:j ≠ 19:=by rintro rfl;rw [List.getElem?_eq_none (by omega)] at hj;cases hj
  rw [g j this] at hLj
  exact h.slots j y hj hLj
 ·rw [g 12 (by omega)] at k
  obtain ⟨vn,vi,vh,vk,va,h5,h6⟩:=h.w.told k
  exact ⟨vn,vi,vh,vk,va,h5,h6.up (Keep.setR (fun hk=>hk.2 rfl) _ 0)⟩
 ·rw [g 16 (by omega)] at k
  rw [g 18 (by omega)]
  exact ⟨(h.w.box1 k).1,Holds.farR h.w.ne _ _ (h.w.box1 k).2⟩
 ·exact ⟨hb0,holds_again hb1⟩
 ·rw [g 16 (by omega)] at k
  rw [setR_size];exact h.w.far1 k
 ·rw [g 17 (by omega),h17] at k;cases k
 ·rw [g 12 (by omega)] at k
  rw [g 13 (by omega),g 14 (by omega),g 15 (by omega),g 18 (by omega)]
  exact h.w.wait k
 ·rw [g 16 (by omega)] at k
  rw [g 18 (by omega)]
  exact h.w.wait1 k
end
end Go.Proofs.YtpoghableadkcaaGreatDoor
