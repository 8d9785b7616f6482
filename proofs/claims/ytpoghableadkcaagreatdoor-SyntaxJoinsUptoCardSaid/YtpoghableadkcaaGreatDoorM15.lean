/- Cx, Bld, joined. -/
import Derived.Test.YtpoghableadkcaaGreatDoorSmp
import Derived.Test.YtpoghableadkcaaGreatDoorM12
import Derived.Maps.AppendAt
section
/- What a walk through the parser keeps: the parser, its frame, one box of its own, and what is known of values. -/
namespace Go.Proofs.YtpoghableadkcaaGreatDoor
open Go.RowKit
set_option linter.unusedVariables false
set_option linter.unusedSimpArgs false

theorem tf (b:Bool):b=true∨b=false:=by cases b <;> simp
theorem ite_yes {A:Type} {b:Bool} {x y:A} (h:b=true):(if b=true then x else y)=x:=if_pos h
theorem ite_no {A:Type} {b:Bool} {x y:A} (h:b=false):(if b=true then x else y)=y:=if_neg (by rw [h];decide)
theorem bite_yes {A B:Type} {b:Bool} {x y:R A} {g:A→Nat→R B} (h:b=true):(if b=true then x else y).bd g=x.bd g:=by rw [ite_yes h]
theorem bite_no {A B:Type} {b:Bool} {x y:R A} {g:A→Nat→R B} (h:b=false):(if b=true then x else y).bd g=y.bd g:=by rw [ite_no h]
theorem pid_bd {A:Type} {E:Env} {i:Nat} (hk:kindAt E i=1) (F:Bs→Nat→R A):F (textAt E i) (i + 1)=(pid E i).bd F:=by rw [pid_yes hk,textAt_tok];rfl
theorem bd_ne {A B:Type} {r:R A} {g:A→Nat→R B} {x:R B} (h:r.bd g=x) (hn:x ≠ .out):r ≠ .out:=fun e=>hn (by rw [← h,e];rfl)
theorem Fp.f2 {p b:Nat} {a w w':World} (h:Fp p a w) (hb:a.heap.size ≤ b) (k:F2 p b w w'):Fp p a w':=Fr.trans h k fun i hi e=>e.elim id fun e=>absurd hi (by omega)

structure Cx (w:World) (p:Nat) (vl:Value) (E:Env) (b:Nat) (T:TypeId) (Q:World→Prop) (W:World) (j:Nat) (cs:List Value):Prop where
 par:Par W p vl E j
 fp:Fp p w W
 box:Holds W b T cs
 lo:p < w.heap.size
 lb:w.heap.size ≤ b
 q:Q W
 stab:∀ {W W':World},F2 p b W W'→Q W→Q W'
section
variable {w W W':World} {p b j j':Nat} {vl:Value} {E:Env} {T:TypeId} {Q:World→Prop} {cs:List Value}
theorem Cx.start (hP:Par w p vl E j) (T:TypeId) (cs:Array Value):Cx w p vl E w.heap.size T (fun _=>True) (w.alloc (.cells cs T)) j cs.toList:=
 ⟨hP.alloc _,Fp.of_below ((Below.refl _ _).alloc (Nat.le_refl _) _),Holds.new w T cs,hP.lt,Nat.le_refl _,trivial,fun _ h=>h⟩
theorem Cx.base (h:Cx w p vl E b T Q W j cs):b < W.heap.size:=h.box.lt
theorem Cx.low (h:Cx w p vl E b T Q W j cs):w.heap.size < W.heap.size:=Nat.lt_of_le_of_lt h.lb h.base
theorem Cx.few (h:Cx w p vl E b T Q W j cs):j ≤ 65536:=Nat.le_trans h.par.le h.par.few
theorem Cx.call (h:Cx w p vl E b T Q W j cs) (hP:Par W' p vl E j') (hF:Fp p W W'):Cx w p vl E b T Q W' j' cs:=
 ⟨hP,h.fp.trans hF,h.box.fp hF (by have:=h.lo;have:=h.lb;omega),h.lo,h.lb,h.stab (F2.of_fp hF) h.q,h.stab⟩
theorem Cx.below (h:Cx w p vl E b T Q W j cs) (hb:Below W.heap.size W W'):Cx w p vl E b T Q W' j cs:=h.call (h.par.belowAll hb) (Fp.of_below hb)
theorem Cx.alloc (h:Cx w p vl E b T Q W j cs) (o:Obj):Cx w p vl E b T Q (W.alloc o) j cs:=h.below ((Below.refl _ _).alloc (Nat.le_refl _) _)
theorem Cx.and (h:Cx w p vl E b T Q W j cs) {V:World→Prop} (hv:V W) (hs:∀ {W W':World},F2 p b W W'→V W→V W'):Cx w p vl E b T (fun W=>Q W∧V W) W j cs:=
 ⟨h.par,h.fp,h.box,h.lo,h.lb,⟨h.q,hv⟩,fun k h2=>⟨h.stab k h2.1,hs k h2.2⟩⟩
theorem Cx.store (h:Cx w p vl E b T Q W j cs) {i:Nat} {xs:List Value} (hW:W'=Go.Proofs.YtpoghableadkcaaGreatDoor.setR W b i xs) (hl:i + xs.length ≤ cs.length):Cx w p vl E b T Q W' j (cs.take i ++ (xs ++ cs.drop (i + xs.length))):=
 have hpb:p < b:=by have:=h.lo;have:=h.lb;omega
 ⟨by rw [hW];exact Par.setR hpb xs i h.par,by rw [hW];exact Fp.setR h.lb xs i h.fp,h.box.stored hW hl,h.lo,h.lb,h.stab (by rw [hW];exact F2.setR xs i F2.rfl_) h.q,h.stab⟩
theorem Cx.set (h:Cx w p vl E b T Q W j cs) {j':Nat} (hj:j' ≤ E.L.length) (hW:W'=Go.Proofs.YtpoghableadkcaaGreatDoor.setR W p 2 [.int .i64 (j':Int)]):Cx w p vl E b T Q W' j' cs:=
 h.call (by rw [hW];exact h.par.set hj) (by rw [hW];exact (Fp.refl p W).set 2 _)
theorem Cx.forget (h:Cx w p vl E b T Q W j cs):Cx w p vl E b T (fun _=>True) W j cs:=⟨h.par,h.fp,h.box,h.lo,h.lb,trivial,fun _ h=>h⟩
theorem Cx.drew (h:Cx w p vl E b T Q W j cs):Cx w p vl E b T Q W.drew j cs:=h.call h.par.drew (Fr.refl _ _).drew
/-- A box is made and filled. -/
theorem Cx.newbox (h:Cx w p vl E b T Q W j cs) {o:Obj} {xs:List Value} {i:Nat} (hW:W'=Go.Proofs.YtpoghableadkcaaGreatDoor.setR (W.alloc o) W.heap.size i xs):Cx w p vl E b T Q W' j cs:=by
 have h1:=h.alloc o
 have hb:=h.par.lt
 refine h.call (by rw [hW];exact Par.setR hb xs i h1.par) (by rw [hW];exact Fp.setR (Nat.le_refl _) xs i (Fp.of_below ((Below.refl _ _).alloc (Nat.le_refl _) _)))
theorem Cx.kind (h:Cx w p vl E b T Q W j cs) {k:Nat} (hk:kindOf E j=k):
  Calls Tryz.prog 105 #[.pointer (some ⟨p,0,none⟩)] W fun e w'=>e=.returned (.int .i64 (k:Int))∧Hid (Cx w p vl E b T Q w' j cs):=
 (kindFn h.par).mono fun e w' ⟨h2,h3⟩=>⟨by rw [h2,hk],h.below h3⟩
theorem Cx.word1 (h:Cx w p vl E b T Q W j cs) {t:Tk} (ht:tokAt E (j + 1)=t):
  Calls Tryz.prog 49 #[.pointer (some ⟨p,0,none⟩),.int .i64 1] W fun e w'=>e=.returned (tokV t)∧Hid (Cx w p vl E b T Q w' j cs):=
 (wordFn h.par 1 (by omega)).mono fun e w' ⟨h2,h3⟩=>⟨by rw [h2,ht],h.below h3⟩
theorem Cx.takes (h:Cx w p vl E b T Q W j cs) (l:List Bs) (row:Array Value) (hr:row.toList=l.map strV) (hl:l.length ≤ 65536) (q:Bool) (hs:sees E j l=q):
  Calls Tryz.prog 18 #[.pointer (some ⟨p,0,none⟩),.slice (some ⟨W.heap.size,0,none⟩) l.length l.length] (W.alloc (.cells row 9)) fun e w'=>e=.returned (.bool q)∧Hid (Cx w p vl E b T Q w' (if q then j + 1 else j) cs):=by
 have h1:=h.alloc (.cells row 9)
 have hL:Holds (W.alloc (.cells row 9)) W.heap.size 9 (l.map strV):=by rw [← hr];exact Holds.new W _ row
 cases q with
 | true=>exact (takes_yes h1.par l hL hl hs).mono fun e w' ⟨h2,h3,h4⟩=>⟨h2,h1.call h3 h4⟩
 | false=>exact (takes_no h1.par l hL hl hs).mono fun e w' ⟨h2,h3⟩=>⟨h2,h1.below h3⟩
theorem Cx.takesY (h:Cx w p vl E b T Q W j cs) (l:List Bs) (row:Array Value) (hr:row.toList=l.map strV) (hl:l.length ≤ 65536) (hs:sees E j l=true):
  Calls Tryz.prog 18 #[.pointer (some ⟨p,0,none⟩),.slice (some ⟨W.heap.size,0,none⟩) l.length l.length] (W.alloc (.cells row 9)) fun e w'=>e=.returned (.bool true)∧Hid (Cx w p vl E b T Q w' (j + 1) cs):=h.takes l row hr hl true hs
theorem Cx.takesN (h:Cx w p vl E b T Q W j cs) (l:List Bs) (row:Array Value) (hr:row.toList=l.map strV) (hl:l.length ≤ 65536) (hs:sees E j l=false):
  Calls Tryz.prog 18 #[.pointer (some ⟨p,0,none⟩),.slice (some ⟨W.heap.size,0,none⟩) l.length l.length] (W.alloc (.cells row 9)) fun e w'=>e=.returned (.bool false)∧Hid (Cx w p vl E b T Q w' j cs):=h.takes l row hr hl false hs
theorem Cx.see0 (h:Cx w p vl E b T Q W j cs) (l:List Bs) (row:Array Value) (hr:row.toList=l.map strV) (hl:l.length ≤ 65536) {q:Bool} (hs:sees E j l=q):
  Calls Tryz.prog 48 #[.pointer (some ⟨p,0,none⟩),.int .i64 0,.slice (some ⟨W.heap.size,0,none⟩) l.length l.length] (W.alloc (.cells row 9)) fun e w'=>e=.returned (.bool q)∧Hid (Cx w p vl E b T Q w' j cs):=by
 have h1:=h.alloc (.cells row 9)
 exact (sees0 h1.par l (by rw [← hr];exact Holds.new W _ row) hl).mono fun e w' ⟨h2,h3⟩=>⟨by rw [h2,hs],h1.below h3⟩
theorem Cx.see1 (h:Cx w p vl E b T Q W j cs) (l:List Bs) (row:Array Value) (hr:row.toList=l.map strV) (hl:l.length ≤ 65536) {q:Bool} (hs:sees E (j + 1) l=q):
  Calls Tryz.prog 48 #[.pointer (some ⟨p,0,none⟩),.int .i64 1,.slice (some ⟨W.heap.size,0,none⟩) l.length l.length] (W.alloc (.cells row 9)) fun e w'=>e=.returned (.bool q)∧Hid (Cx w p vl E b T Q w' j cs):=by
 have h1:=h.alloc (.cells row 9)
 exact (sees1 h1.par l (by rw [← hr];exact Holds.new W _ row) hl).mono fun e w' ⟨h2,h3⟩=>⟨by rw [h2,hs],h1.below h3⟩
theorem Cx.is (h:Cx w p vl E b T Q W j cs) (k:Nat) {q:Bool} (hs:decide (kindAt E j=k)=q):
  Calls Tryz.prog 103 #[.pointer (some ⟨p,0,none⟩),.int .i64 (k:Int)] W fun e w'=>e=.returned (.bool q)∧Hid (Cx w p vl E b T Q w' j cs):=
 (isFn h.par k).mono fun e w' ⟨h2,h3⟩=>⟨by rw [h2,hs],h.below h3⟩
theorem Cx.word (h:Cx w p vl E b T Q W j cs) {t:Tk} (ht:tokAt E j=t):
  Calls Tryz.prog 49 #[.pointer (some ⟨p,0,none⟩),.int .i64 0] W fun e w'=>e=.returned (tokV t)∧Hid (Cx w p vl E b T Q w' j cs):=
 (wordFn h.par 0 (by omega)).mono fun e w' ⟨h2,h3⟩=>⟨by rw [h2,Nat.add_zero,ht],h.below h3⟩
/-- A call that may throw. -/
theorem Cx.part (h:Cx w p vl E b T Q W j cs) {A B:Type} {V:World→Value→A→Prop} {r:R A} {g:A→Nat→R B} {Rr:R B} {fn:Nat} {args:Array Value}
  (hc:Calls Tryz.prog fn args W (Out p vl E W V r)) (hQ:r.bd g=Rr) (K:Ending→World→Prop) (hb:∀ c a wz,Rr=.bad c a→Fp p w wz→K (.panicked (badChain c a)) wz)
  (hk:∀ x j' v wz,r=.ok x j'→Hid (g x j'=Rr)→V wz v x→Hid (Cx w p vl E b T Q wz j' cs)→K (.returned v) wz):Calls Tryz.prog fn args W K:=by
 refine hc.mono fun e wz ho=>?_
 cases r with
 | out=>exact ho.elim
 | bad c a=>obtain ⟨rfl,hF⟩:=ho;exact hb c a wz hQ.symm (h.fp.trans hF)
 | ok x j'=>obtain ⟨v,rfl,hv,hP,hF⟩:=ho;exact hk x j' v wz rfl hQ hv (h.call hP hF)
theorem Cx.wrong (h:Cx w p vl E b T Q W j cs) {A:Type} {Rr:R A} (hQ:Go.Proofs.YtpoghableadkcaaGreatDoor.wrong E j=Rr) (K:Ending→World→Prop) (hb:∀ c a wz,Rr=.bad c a→Fp p w wz→K (.panicked (badChain c a)) wz):
  Calls Tryz.prog 30 #[.pointer (some ⟨p,0,none⟩)] W K:=by
 refine (wrongFn h.par).mono fun e wz ho=>?_
 obtain ⟨rfl,hbl⟩:=ho
 exact hb _ _ wz (by rw [← hQ,wrong_eq]) (h.fp.bel hbl)
end
end Go.Proofs.YtpoghableadkcaaGreatDoor
end
section
/- Rows of whole things are made by one law. -/
namespace Go.Proofs.YtpoghableadkcaaGreatDoor
open Go.RowKit
set_option linter.unusedVariables false
set_option linter.unusedSimpArgs false

theorem zipFold:∀ (xs:List Value) (k off:Nat) (a:Array Value),((xs.zipIdx k).foldl (fun (cs:Array Value) (p:Value × Nat)=>cs.setIfInBounds (off + p.2) p.1) a).toList=putR a.toList (off + k) xs
 | [],k,off,a=>rfl
 | x :: r,k,off,a=>by
  rw [List.zipIdx_cons,List.foldl_cons,zipFold r (k + 1) off,putR,Array.toList_setIfInBounds]
  rfl
theorem putR_len:∀ (xs:List Value) (i:Nat) (cs:List Value),(putR cs i xs).length=cs.length
 | [],_,_=>rfl
 | x :: r,i,cs=>by rw [putR,putR_len r,List.length_set]
theorem fill_cons {place:Nat→Option (Nat × Nat)} {cells:Array Value} {i off n:Nat} {v:Value} {rest:List (Nat × Value)} (hp:place i=some (off,n)) (hv:v.cells.size=n) (hc:off + n ≤ cells.size):
  Instr.fill place cells ((i,v) :: rest)=Instr.fill place (putR cells.toList off v.cells.toList).toArray rest:=by
 rw [Instr.fill,hp]
 simp only
 rw [if_neg (by simp [hv];omega)]
 have h:=zipFold v.cells.toList 0 off cells
 rw [Nat.add_zero] at h
 rw [← h,← Array.foldl_toList,Array.toList_zipIdx]
section
variable {P:Program} {W:World} {t elem:TypeId} {size:Nat} {i:TypeInfo} {z:Value}
theorem run_buildSliceN (ht:P.underlying t=some (.slice elem)) (hi:P.info? elem=some i) (hz:i.zero=some z) (hs:i.size=size) (h0:0 < size) (k:Nat) (hk:0 < k) (hb:k * size ≤ 16777216) (parts:Array (Nat × Value)) (cs:List Value)
  (hf:∀ (a:Array Value),a.size=k * size→Instr.fill (fun i=>some (i * size,size)) a parts.toList=some cs.toArray):
  (Instr.buildSlice t k parts).run P W=.ok (.slice (some ⟨W.heap.size,0,none⟩) k k) (W.alloc (.cells cs.toArray elem)):=by
 have h1:¬ k * size > 2 ^ 24:=by omega
 have h2:¬ k * size=0:=by have:=Nat.mul_pos hk h0;omega
 have h3:=hf ((Array.range (k * size)).map (z.cells[· % z.cells.size]!)) (by simp)
 have hz1:(zeroValue elem).run P W=.ok z W:=by simp [zeroValue,typeInfo,hi,hz,go_sem]
 have hs1:(sizeOf elem).run P W=.ok size W:=by simp [sizeOf,typeInfo,hi,hs,go_sem]
 unfold Instr.buildSlice
 simp only [Sem.run_bind,run_underlying ht,Result.andThen_ok,hs1,if_neg h1,if_neg h2,hz1,Sem.run_pure,h3]
 rfl
theorem run_buildSlice1 (ht:P.underlying t=some (.slice elem)) (hi:P.info? elem=some i) (hz:i.zero=some z) (hs:i.size=size) (h0:0 < size) (hb:size ≤ 16777216) (cs:List Value) (hl:cs.length=size):
  (Instr.buildSlice t 1 #[(0,.agg cs.toArray)]).run P W=.ok (.slice (some ⟨W.heap.size,0,none⟩) 1 1) (W.alloc (.cells cs.toArray elem)):=by
 refine run_buildSliceN ht hi hz hs h0 1 (by omega) (by omega) _ cs fun a ha=>?_
 rw [fill_cons (off:=0) (n:=size) (by simp) (by simpa [Value.cells] using hl) (by omega),Instr.fill]
 simp only [Value.cells]
 rw [putR_all (by simp [ha,hl])]
theorem run_buildSlice2 (ht:P.underlying t=some (.slice elem)) (hi:P.info? elem=some i) (hz:i.zero=some z) (hs:i.size=size) (h0:0 < size) (hb:size ≤ 1000000) (cs ds:List Value) (hl:cs.length=size) (hd:ds.length=size):
  (Instr.buildSlice t 2 #[(0,.agg cs.toArray),(1,.agg ds.toArray)]).run P W=.ok (.slice (some ⟨W.heap.size,0,none⟩) 2 2) (W.alloc (.cells (cs ++ ds).toArray elem)):=by
 refine run_buildSliceN ht hi hz hs h0 2 (by omega) (by omega) _ (cs ++ ds) fun a ha=>?_
 rw [fill_cons (off:=0) (n:=size) (by simp) (by simpa [Value.cells] using hl) (by omega),fill_cons (off:=size) (n:=size) (by simp) (by simpa [Value.cells] using hd) (by simp [putR_len];omega),Instr.fill]
 simp only [Value.cells]
 rw [putR_from _ _ _ (by simp [putR_len];omega),putR_mid _ _ _ (by simp;omega)]
 simp [hl]
variable {ops:Array Oper} {rest:List Oper} {o:Oper} {a:Act} {Q:Exit→Act→World→Prop}
theorem wpList_buildSlice1 (hgd:o.guard=none) (x:Operand) (ho:o.op=.buildSlice t 1 #[(0,x)]) (ht:P.underlying t=some (.slice elem)) (hi:P.info? elem=some i) (hz:i.zero=some z) (hs:i.size=size) (h0:0 < size) (hb:size ≤ 16777216) (cs:List Value) (hx:a.eval x=.agg cs.toArray) (hl:cs.length=size)
  (h:wpList P ops Q rest (a.put o.dst (.slice (some ⟨W.heap.size,0,none⟩) 1 1)) (W.alloc (.cells cs.toArray elem))):wpList P ops Q (o :: rest) a W:=
 wpList_plain hgd fun K hK=>by
  unfold Oper.wp execOp
  have:=run_buildSlice1 (W:=W) ht hi hz hs h0 hb cs hl
  simp only [ho,List.map_toArray,List.map_cons,List.map_nil,hx,Sem.run_bind,this,Result.andThen_ok,Sem.run_pure]
  exact hK _ _ h
theorem wp_buildSlice2 {K:Act→World→Prop} (x y:Operand) (ho:o.op=.buildSlice t 2 #[(0,x),(1,y)]) (ht:P.underlying t=some (.slice elem)) (hi:P.info? elem=some i) (hz:i.zero=some z) (hs:i.size=size) (h0:0 < size) (hb:size ≤ 1000000) (cs ds:List Value) (hx:a.eval x=.agg cs.toArray) (hy:a.eval y=.agg ds.toArray) (hl:cs.length=size) (hd:ds.length=size)
  (h:K (a.put o.dst (.slice (some ⟨W.heap.size,0,none⟩) 2 2)) (W.alloc (.cells (cs ++ ds).toArray elem))):o.wp P a W K Q:=by
 unfold Oper.wp execOp
 have:=run_buildSlice2 (W:=W) ht hi hz hs h0 hb cs ds hl hd
 simp only [ho,List.map_toArray,List.map_cons,List.map_nil,hx,hy,Sem.run_bind,this,Result.andThen_ok,Sem.run_pure]
 exact h
theorem wp_storeB {K:Act→World→Prop} {T:TypeId} {cs:List Value} (ty:TypeId) (x y:Operand) (ho:o.op=.store ty x y) (b i:Nat) (xs:List Value) (hx:a.eval x=.pointer (some ⟨b,i,none⟩)) (hy:a.eval y=.agg xs.toArray)
  (h:Holds W b T cs) (hl:i + xs.length ≤ cs.length) (hi:(P.info? ty).map (·.size)=some xs.length) (h1:xs.all (·.oneCell')=true)
  (hk:Named (setR W b i xs) fun w'=>K (a.put o.dst undef) w'):o.wp P a W K Q:=by
 unfold Oper.wp execOp
 simp only [ho,hx,hy,Sem.run_bind,Sem.run_pure,Result.andThen_ok,storeN h hl hi h1]
 exact hk _ rfl
end
theorem listStm_info:(Tryz.prog.info? 57).map (fun i=>(i.zero.map fun z=>z.cells.size,i.size,i.bytes))=some (some 28,28,456):=by kernel_rfl
end Go.Proofs.YtpoghableadkcaaGreatDoor
end
