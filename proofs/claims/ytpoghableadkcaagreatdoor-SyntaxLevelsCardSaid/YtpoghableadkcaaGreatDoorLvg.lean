/- Levels' regions: one law. -/
import Derived.Test.YtpoghableadkcaaGreatDoorLvr
namespace Go.Proofs.YtpoghableadkcaaGreatDoor
open Go.RowKit
set_option linter.unusedVariables false
set_option linter.unusedSimpArgs false

/-- What the frame holds behind the region. -/
def lvPuts (sl:List Nat) (pv:Nat→Value) (xs:List Value) (b1 b2:Nat):Puts:=(List.range 18).map fun j=>(j,sl.getD j 0,lvVal pv xs b1 b2 j)
theorem LvA.done {w0 w:World} {a0 a:Act} {x:Ast} {sl:List Nat} {pv:Nat→Value} {xs:List Value} {b1 b2:Nat} {L:Array Bool} (h:LvA w0 a0 x sl pv xs b1 b2 L a w) (hsl:sl.length=18) (hnd:sl.Nodup) (hlt:∀ (j d:Nat),sl[j]?=some d→d < a0.tmps.size) (hall:∀ (j:Nat),j < 20→L.getD j false=true):
  a=puts (lvPuts sl pv xs b1 b2) a0:=by
 have hmap:(lvPuts sl pv xs b1 b2).map (·.2.1)=sl:=by
  unfold lvPuts
  rw [List.map_map]
  apply List.ext_getElem
  ·simp [hsl]
  ·intro n h1 h2
   simp [List.getD_eq_getElem?_getD,List.getElem?_eq_getElem h2]
 have ht:a.tmps=(puts (lvPuts sl pv xs b1 b2) a0).tmps:=by
  apply Array.ext_getElem?
  intro y
  by_cases hy:sl.contains y=true
  ·obtain ⟨j,hj⟩:=List.mem_iff_getElem?.1 (List.contains_iff_mem.1 hy)
   have hj18:j < 18:=by rw [← hsl];exact (List.getElem?_eq_some_iff.1 hj).1
   rw [h.slots j y hj (hall j (by omega))]
   refine (puts_get _ a0 (k:=j) (j:=j) (by rw [hmap];exact hnd) ?_ (hlt j y hj)).symm
   simp [lvPuts,hj18,List.getD_eq_getElem?_getD,hj]
  ·rw [h.keep y (bool_no hy)]
   refine (puts_ne _ a0 fun p hp e=>hy ?_).symm
   rw [List.contains_iff_mem,← hmap]
   exact List.mem_map.2 ⟨p,hp,e⟩
 have hd:∀ (ps:Puts) (b:Act),(puts ps b).defers=b.defers:=by
  intro ps
  induction ps with
  | nil=>intro b;rfl
  | cons p r ih=>intro b;rw [puts,ih];rfl
 have h2:=hd (lvPuts sl pv xs b1 b2) a0
 have h1:=h.defs
 cases a
 cases hq:puts (lvPuts sl pv xs b1 b2) a0
 rw [hq] at ht h2
 simp only at ht h1 h2
 rw [ht,h1,← h2]
theorem wp_region_lv {ops:Array Oper} {Q:Exit→Act→World→Prop} {id:Nat} {a0:Act} {w0:World} (sl:List Nat) (pv:Nat→Value) {x:Ast} {f:Nat} {txt:ByteArray}
  (hm:Tryz.prog.follows .mixedOrders=true) (ho:ordered ops=true) (hn0:ops.size=20) (hsl:sl.length=18) (hnd:sl.Nodup) (hlt:∀ (j d:Nat),sl[j]?=some d→d < a0.tmps.size)
  (hW:Wd w0) (hf:exprFu f txt) (hx:exprRes f txt=.ok x) (hops:∀ (i:Nat) (o:Oper),ops[i]?=some o→o.guard=none∧o.dst=sl[i]?)
  (hpure:∀ (i:Nat) (o:Oper),i < 16→i ≠ 12→ops[i]?=some o→∀ (xs:List Value) (b1 b2:Nat) (L:Array Bool) (a:Act) (w:World),LvA w0 a0 x sl pv xs b1 b2 L a w→(∀ e ∈ o.after,Region.binds .any e=true→L.getD e.on false=true)→(execOp a.eval o).run Tryz.prog w=.ok (.value (lvVal pv xs b1 b2 i)) w∧(12 < i→L.getD 12 false=true))
  (hcall:∀ (o:Oper),ops[12]?=some o→∀ (xs:List Value) (b1 b2:Nat) (L:Array Bool) (a:Act) (w:World),LvA w0 a0 x sl pv xs b1 b2 L a w→(∀ e ∈ o.after,Region.binds .any e=true→L.getD e.on false=true)→(execOp a.eval o).run Tryz.prog w=.ok (.enter 11 #[.string txt]) w)
  (h16:∀ (o:Oper),ops[16]?=some o→∀ (a:Act) (w:World),(execOp a.eval o).run Tryz.prog w=.ok (.value (.pointer (some ⟨w.heap.size,0,none⟩))) (w.alloc (.cells zeroA.toArray 41)))
  (h17:∀ (o:Oper),ops[17]?=some o→∀ (a:Act) (w:World),(execOp a.eval o).run Tryz.prog w=.ok (.value (.pointer (some ⟨w.heap.size,0,none⟩))) (w.alloc (.cells #[.int .i64 0,.int .i64 0] 26)))
  (h18:∀ (o:Oper),ops[18]?=some o→∀ (xs:List Value) (b1 b2:Nat) (L:Array Bool) (a:Act) (w:World),L.getD 18 false=false→LvA w0 a0 x sl pv xs b1 b2 L a w→(∀ e ∈ o.after,Region.binds .any e=true→L.getD e.on false=true)→L.getD 12 false=true∧L.getD 16 false=true∧(execOp a.eval o).run Tryz.prog w=.ok .skip (setR w b1 0 xs))
  (h19:∀ (o:Oper),ops[19]?=some o→∀ (xs:List Value) (b1 b2:Nat) (L:Array Bool) (a:Act) (w:World),LvA w0 a0 x sl pv xs b1 b2 L a w→(∀ e ∈ o.after,Region.binds .any e=true→L.getD e.on false=true)→L.getD 17 false=true∧(execOp a.eval o).run Tryz.prog w=.ok .skip (setR w b2 0 [.int .i64 0,.int .i64 0]))
  (hend:∀ (xs:List Value) (b1 b2:Nat) (w:World),Below w0.heap.size w0 w→b1 ≠ b2→AstG (fun k=>k ≠ b1∧k ≠ b2) w x xs→w0.heap.size ≤ b1→Holds w b1 41 xs→w0.heap.size ≤ b2→Holds w b2 26 [.int .i64 0,.int .i64 0]→Q .normal (puts (lvPuts sl pv xs b1 b2) a0) w):
  (Code.region id ops true).wp Tryz.prog Q a0 w0:=by
 refine wp_region_inv (fun L a w=>∃ xs b1 b2,LvA w0 a0 x sl pv xs b1 b2 L a w) hm ho (fun i o h=>(hops i o h).1) ?_ ?_ ?_
 ·have hz:∀ j,(Array.replicate ops.size false).getD j false=false:=fun j=>by
   simp only [Array.getD_eq_getD_getElem?,Array.getElem?_replicate]
   split <;> rfl
  refine ⟨[],w0.heap.size,w0.heap.size + 1,rfl,rfl,fun _ _=>rfl,fun j y _ hL=>?_,below_drewN (Below.refl _ _) 1,fun k=>?_,fun k=>?_,fun k=>?_,fun _=>Nat.le_refl _,fun _=>Nat.le_succ _,by omega,fun _=>⟨hz 13,hz 14,hz 15,hz 18⟩,fun _=>hz 18⟩
  ·rw [hz] at hL;cases hL
  ·rw [hz] at k;cases k
  ·rw [hz] at k;cases k
  ·rw [hz] at k;cases k
 ·rintro L i o a w K hs hoi hli hdep ⟨xs,b1,b2,hI⟩ hK
  rw [hn0] at hs
  have hi:i < 20:=by rw [← hn0];exact (Array.getElem?_eq_some_iff.1 hoi).1
  have hli':L.getD i false=false:=by
   have:i < L.size:=by omega
   simp [this] at hli ⊢;exact hli
  have hdst:=(hops i o hoi).2
  have hget:∀ j,j < 18→∃ d,sl[j]?=some d:=fun j hj=>⟨_,List.getElem?_eq_getElem (by omega)⟩
  unfold Oper.wp
  by_cases hi16:i < 16
  ·obtain ⟨d,hd⟩:=hget i (by omega)
   by_cases h12:i=12
   ·subst h12
    rw [hcall o hoi xs b1 b2 L a w hI hdep]
    refine (exprTop (hW.below hI.w.below) hf).mono fun e w' hp=>?_
    obtain ⟨hb,hp⟩:=hp
    rw [hx] at hp
    obtain ⟨c,rfl,hv⟩:=hp
    obtain ⟨b1',b2',hI'⟩:=hI.call hs hd hnd (hlt _ _ hd) hli' hb hv
    have:=hK _ _ ⟨c,b1',b2',hI'⟩
    rw [← hd,← hdst] at this
    exact this
   ·obtain ⟨hr,h12'⟩:=hpure i o hi16 h12 hoi xs b1 b2 L a w hI hdep
    rw [hr]
    have:=hK _ _ ⟨xs,b1,b2,hI.put hs hi16 h12 hd hnd (hlt _ _ hd) h12'⟩
    rw [← hd,← hdst] at this
    exact this
  ·have hi4:i=16∨i=17∨i=18∨i=19:=by omega
   rcases hi4 with rfl | rfl | rfl | rfl
   ·obtain ⟨d,hd⟩:=hget 16 (by omega)
    rw [h16 o hoi a w]
    obtain ⟨b1',b2',hI'⟩:=hI.alloc1 hs hd hnd (hlt _ _ hd) hli'
    have:=hK _ _ ⟨xs,b1',b2',hI'⟩
    rw [← hd,← hdst] at this
    exact this
   ·obtain ⟨d,hd⟩:=hget 17 (by omega)
    rw [h17 o hoi a w]
    obtain ⟨b1',b2',hI'⟩:=hI.alloc2 hs hd hnd (hlt _ _ hd) hli'
    have:=hK _ _ ⟨xs,b1',b2',hI'⟩
    rw [← hd,← hdst] at this
    exact this
   ·obtain ⟨h1,h2,h3⟩:=h18 o hoi xs b1 b2 L a w hli' hI hdep
    rw [h3]
    have:=hK _ _ ⟨xs,b1,b2,hI.store1 hs hsl hli' h1 h2⟩
    have hdn:o.dst=none:=by rw [hdst,List.getElem?_eq_none (by omega)]
    unfold Oper.upon
    rw [hdn]
    exact this
   ·obtain ⟨h1,h3⟩:=h19 o hoi xs b1 b2 L a w hI hdep
    rw [h3]
    have:=hK _ _ ⟨xs,b1,b2,hI.store2 hs hsl h1⟩
    have hdn:o.dst=none:=by rw [hdst,List.getElem?_eq_none (by omega)]
    unfold Oper.upon
    rw [hdn]
    exact this
 ·rintro L a w hs hall ⟨xs,b1,b2,hI⟩
  rw [hn0] at hs hall
  rw [hI.done hsl hnd hlt hall]
  obtain ⟨k1,k2⟩:=hI.w.box1 (hall 16 (by omega))
  obtain ⟨k3,k4⟩:=hI.w.box2 (hall 17 (by omega))
  rw [ite_t (hall 18 (by omega))] at k2
  exact hend xs b1 b2 w hI.w.below hI.w.ne (hI.w.told (hall 12 (by omega))) k1 k2 k3 k4
end Go.Proofs.YtpoghableadkcaaGreatDoor
