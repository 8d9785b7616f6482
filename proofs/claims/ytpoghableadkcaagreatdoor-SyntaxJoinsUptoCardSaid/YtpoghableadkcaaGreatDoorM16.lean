/- Ax, Stp, Seq, StAll, joined. -/
import Derived.Test.YtpoghableadkcaaGreatDoorM15
import Derived.Test.YtpoghableadkcaaGreatDoorSt
import Derived.Test.YtpoghableadkcaaGreatDoorM11
import Derived.Deep.DeepCutAuto
import Derived.Test.YtpoghableadkcaaGreatDoorM14
import Derived.Deep.LoopGhost
import Derived.Deep.RegionHeld3
section
/- What a loop through the parser keeps that gathers things in a row of its own. -/
namespace Go.Proofs.YtpoghableadkcaaGreatDoor
open Go.RowKit
set_option linter.unusedVariables false
set_option linter.unusedSimpArgs false

/-- Rows of things: what they may be moved to. -/
structure RowUp {A:Type} (F:(Nat→Prop)→World→List A→List Value→Prop):Prop where
 up:∀ {P:Nat→Prop} {w w':World},Keep P w w'→∀ (l:List A) {f:List Value},F P w l f→F P w' l f
 mono:∀ {P Q:Nat→Prop} {w:World},Wide P Q w→∀ (l:List A) {f:List Value},F P w l f→F Q w l f
 app:∀ {P:Nat→Prop} {w:World} {l m:List A} {f g:List Value},F P w l f→F P w m g→F P w (l ++ m) (f ++ g)
theorem rowStm:RowUp StmsF:=⟨StmsF.up,StmsF.mono,StmsF.append⟩
theorem rowUnt:RowUp UntsF:=⟨UntsF.up,UntsF.mono,UntsF.append⟩

structure Ax {A:Type} (F:(Nat→Prop)→World→List A→List Value→Prop) (w:World) (p:Nat) (vl:Value) (E:Env) (T:TypeId) (size:Nat) (v:Value) (acc:List A) (flat:List Value) (W:World) (j:Nat):Prop where
 own:W.ownsRow w.heap.size T size v acc.length flat
 el:F (But w.heap.size v) W acc flat
 par:Par W p vl E j
 fp:Fp p w W
 lo:p < w.heap.size
section
variable {A:Type} {F:(Nat→Prop)→World→List A→List Value→Prop} {w W W':World} {p j j' size:Nat} {vl v v':Value} {E:Env} {T:TypeId} {acc:List A} {flat:List Value}
theorem Ax.call (U:RowUp F) (h:Ax F w p vl E T size v acc flat W j) (hP:Par W' p vl E j') (hF:Fp p W W'):Ax F w p vl E T size v acc flat W' j':=
 ⟨owns_fp h.own hF h.lo,U.up (Keep.fp hF h.lo) acc h.el,hP,h.fp.trans hF,h.lo⟩
theorem Ax.below (U:RowUp F) (h:Ax F w p vl E T size v acc flat W j) (hb:Below W.heap.size W W'):Ax F w p vl E T size v acc flat W' j:=h.call U (h.par.belowAll hb) (Fp.of_below hb)
theorem Ax.alloc (U:RowUp F) (h:Ax F w p vl E T size v acc flat W j) (o:Obj):Ax F w p vl E T size v acc flat (W.alloc o) j:=h.below U ((Below.refl _ _).alloc (Nat.le_refl _) _)
theorem Ax.drew (U:RowUp F) (h:Ax F w p vl E T size v acc flat W j):Ax F w p vl E T size v acc flat W.drew j:=h.call U h.par.drew (Fr.refl _ _).drew
theorem Ax.few (h:Ax F w p vl E T size v acc flat W j):j ≤ 65536:=Nat.le_trans h.par.le h.par.few
theorem Ax.takes (U:RowUp F) (h:Ax F w p vl E T size v acc flat W j) (l:List Bs) (row:Array Value) (hr:row.toList=l.map strV) (hl:l.length ≤ 65536) (q:Bool) (hs:sees E j l=q):
  Calls Tryz.prog 18 #[.pointer (some ⟨p,0,none⟩),.slice (some ⟨W.heap.size,0,none⟩) l.length l.length] (W.alloc (.cells row 9)) fun e w'=>e=.returned (.bool q)∧Hid (Ax F w p vl E T size v acc flat w' (if q then j + 1 else j)):=by
 have h1:=h.alloc U (.cells row 9)
 have hL:Holds (W.alloc (.cells row 9)) W.heap.size 9 (l.map strV):=by rw [← hr];exact Holds.new W _ row
 cases q with
 | true=>exact (takes_yes h1.par l hL hl hs).mono fun e w' ⟨h2,h3,h4⟩=>⟨h2,h1.call U h3 h4⟩
 | false=>exact (takes_no h1.par l hL hl hs).mono fun e w' ⟨h2,h3⟩=>⟨h2,h1.below U h3⟩
theorem Ax.see0 (U:RowUp F) (h:Ax F w p vl E T size v acc flat W j) (l:List Bs) (row:Array Value) (hr:row.toList=l.map strV) (hl:l.length ≤ 65536) {q:Bool} (hs:sees E j l=q):
  Calls Tryz.prog 48 #[.pointer (some ⟨p,0,none⟩),.int .i64 0,.slice (some ⟨W.heap.size,0,none⟩) l.length l.length] (W.alloc (.cells row 9)) fun e w'=>e=.returned (.bool q)∧Hid (Ax F w p vl E T size v acc flat w' j):=by
 have h1:=h.alloc U (.cells row 9)
 exact (sees0 h1.par l (by rw [← hr];exact Holds.new W _ row) hl).mono fun e w' ⟨h2,h3⟩=>⟨by rw [h2,hs],h1.below U h3⟩
theorem Ax.part (U:RowUp F) (h:Ax F w p vl E T size v acc flat W j) {B C:Type} {V:World→Value→B→Prop} {r:R B} {g:B→Nat→R C} {Rr:R C} {fn:Nat} {args:Array Value}
  (hc:Calls Tryz.prog fn args W (Out p vl E W V r)) (hQ:r.bd g=Rr) (K:Ending→World→Prop) (hb:∀ c a wz,Rr=.bad c a→Fp p w wz→K (.panicked (badChain c a)) wz)
  (hk:∀ x j' u wz,r=.ok x j'→Hid (g x j'=Rr)→V wz u x→Hid (Ax F w p vl E T size v acc flat wz j')→K (.returned u) wz):Calls Tryz.prog fn args W K:=by
 refine hc.mono fun e wz ho=>?_
 cases r with
 | out=>exact ho.elim
 | bad c a=>obtain ⟨rfl,hF⟩:=ho;exact hb c a wz hQ.symm (h.fp.trans hF)
 | ok x j'=>obtain ⟨u,rfl,hv,hP,hF⟩:=ho;exact hk x j' u wz rfl hQ hv (h.call U hP hF)
theorem Ax.wrong (h:Ax F w p vl E T size v acc flat W j) {B:Type} {Rr:R B} (hQ:Go.Proofs.YtpoghableadkcaaGreatDoor.wrong E j=Rr) (K:Ending→World→Prop) (hb:∀ c a wz,Rr=.bad c a→Fp p w wz→K (.panicked (badChain c a)) wz):
  Calls Tryz.prog 30 #[.pointer (some ⟨p,0,none⟩)] W K:=by
 refine (wrongFn h.par).mono fun e wz ho=>?_
 obtain ⟨rfl,hbl⟩:=ho
 exact hb _ _ wz (by rw [← hQ,wrong_eq]) (h.fp.bel hbl)
/-- One thing more. -/
theorem Ax.push (U:RowUp F) (h:Ax F w p vl E T size v acc flat W j) {lo:Nat} (h0:w.heap.size ≤ lo) (hv:∀ g,v.ownBlock=some g→g < lo) {x:A} {news:List Value} (hx:F (From lo) W [x] news) {o:Obj} {W':World}
  (hown:W'.ownsRow w.heap.size T size v' (acc.length + 1) (flat ++ news)) (hgrow:(W.alloc o).grownBy W' v.ownBlock) (hat:v'.ownBlock=v.ownBlock∨v'.ownBlock=some (W.alloc o).heap.size):Ax F w p vl E T size v' (acc ++ [x]) (flat ++ news) W' j:=by
 have h1:=h.alloc U o
 have hb4:Below W.heap.size W (W.alloc o):=(Below.refl _ _).alloc (Nat.le_refl _) _
 have hE:F (But w.heap.size v) W (acc ++ [x]) (flat ++ news):=U.app h.el (U.mono (Wide.but2 (w:=W) (wr:=W) (base:=w.heap.size) h0 hv) [x] hx)
 refine ⟨by rw [List.length_append];exact hown,?_,h1.par.grown hgrow (fun g e=>by have:=owns_ge h.own g e;have:=h.lo;omega),h1.fp.grown hgrow (fun g e=>owns_ge h.own g e),h.lo⟩
 exact U.mono (Wide.out (w':=W') hat) _ (U.up ((Keep.grown (base:=w.heap.size) hgrow).imp fun k hk=>hk.1) _ (U.mono Wide.in_ _ (U.up (Keep.below hb4) _ hE)))
end
theorem Ax.start {A:Type} {F:(Nat→Prop)→World→List A→List Value→Prop} (h0:∀ P w,F P w [] []) {w:World} {p j size:Nat} {vl:Value} {E:Env} (T:TypeId) (hP:Par w p vl E j):Ax F w p vl E T size (.slice none 0 0) [] [] w j:=
 ⟨⟨by simp,.inl ⟨rfl,rfl⟩⟩,h0 _ _,hP,Fp.refl p w,hP.lt⟩
end Go.Proofs.YtpoghableadkcaaGreatDoor
end
section
/- The walk of step (printed by mkstep.py). -/
namespace Go.Proofs.YtpoghableadkcaaGreatDoor
open Go.RowKit
set_option linter.unusedVariables false
set_option linter.unusedSimpArgs false

theorem StmsF.two {P:Nat→Prop} {w:World} {s t:Stm} {cs ds:List Value} (h:StmF P w s cs) (k:StmF P w t ds):StmsF P w [s,t] (cs ++ ds):=StmsF.append (StmsF.sing h) (StmsF.sing k)
theorem Holds.all {W:World} {b:Nat} {t:TypeId} {cs xs:List Value} (h:Holds W b t (cs.take 0 ++ (xs ++ cs.drop (0 + xs.length)))) (hl:cs.length=xs.length):Holds W b t xs:=by
 rw [List.take_zero,List.nil_append,List.drop_of_length_le (by omega),List.append_nil] at h;exact h

set_option maxHeartbeats 4000000 in
set_option maxRecDepth 1000000 in
theorem stepFn {E:Env} {f:Nat} (ih:StmOk E f) {w:World} {p i:Nat} {vl:Value} (hP:Par w p vl E i) (hne:step E (f + 1) i ≠ .out):
  Calls Tryz.prog 139 #[.pointer (some ⟨p,0,none⟩)] w (Out p vl E w (StmV (From w.heap.size)) (step E (f + 1) i)):=by
 have hp1:=hP.lt
 obtain ⟨Rr,hRr⟩:∃ Rr,step E (f + 1) i=Rr:=⟨_,rfl⟩
 rw [hRr] at hne ⊢
 have HNE:=Lib.hid hne
 have HIH:=Lib.hid ih
 have hfd:=field_tok3
 have hfd0:=field_tok0
 obtain ⟨t,ht⟩:∃ t,tokAt E i=t:=⟨_,rfl⟩
 rw [step,placeAt_tok,ht] at hRr
 have HQ:=Lib.hid hRr
 have Ht:=Lib.hid ht
 have HX0:=Lib.hid (Cx.start hP 57 #[.int .i64 0,.int .i64 0,.string ⟨#[]⟩,.string ⟨#[]⟩,.int .i64 0,.bool false,.bool false,.bool false,.slice none 0 0,.slice none 0 0,.slice none 0 0,.int .i64 0,.int .i64 0,.string ⟨#[]⟩,.string ⟨#[]⟩,.slice none 0 0,.slice none 0 0,.slice none 0 0,.slice none 0 0,.slice none 0 0,.slice none 0 0,.slice none 0 0,.int .i64 0,.string ⟨#[]⟩,.slice none 0 0,.int .i64 0,.slice none 0 0,.slice none 0 0])
 have HB:Hid (∀ c a wz,Rr=.bad c a→Fp p w wz→Out p vl E w (StmV (From w.heap.size)) Rr (.panicked (badChain c a)) wz):=fun c a wz h hF=>by rw [h];exact ⟨rfl,hF⟩
 clear hne ih ht hP hRr
 go_enter Tryz.func139,Tryz.ntmps139
 have hT:=HX0.out.word Ht.out
 unfold tokV at hT
 have HT:=Lib.hid hT
 clear HX0 hT
 go_wp2_with (fail)
 refine HT.out.mono ?_
 rintro e w1 ⟨rfl,HX1⟩
 clear HT
 go_upto_region 2 with (fail)
 go_cut [20] (fun sq wx=>∃ q:Bool,sq=.bool q∧Hid ((decide (0 < kindOf E i) || (decide (kindAt E i=1) && decide (kindAt E (i + 1)=1)))=q)∧Hid (Cx w p vl E w.heap.size 57 (fun _=>True) wx i [.int .i64 0,.int .i64 0,.string ⟨#[]⟩,.string ⟨#[]⟩,.int .i64 0,.bool false,.bool false,.bool false,.slice none 0 0,.slice none 0 0,.slice none 0 0,.int .i64 0,.int .i64 0,.string ⟨#[]⟩,.string ⟨#[]⟩,.slice none 0 0,.slice none 0 0,.slice none 0 0,.slice none 0 0,.slice none 0 0,.slice none 0 0,.slice none 0 0,.int .i64 0,.string ⟨#[]⟩,.slice none 0 0,.int .i64 0,.slice none 0 0,.slice none 0 0]))
 case first=>
  obtain ⟨kd,hkd⟩:∃ kd,kindOf E i=kd:=⟨_,rfl⟩
  have HKD:=Lib.hid hkd
  have HT:=Lib.hid (HX1.out.kind hkd)
  clear hkd
  by_cases h0:0 < kd
  ·have HK0:=Lib.hid h0
   have hk1:decide (0 < (kd:Int))=true:=decide_eq_true (by omega)
   have hk2:(0 < (kd:Int)):=by omega
   clear HX1 h0
   go_wp2_with (fail)
   refine HT.out.mono ?_
   rintro e w2 ⟨rfl,HX2⟩
   clear HT
   go_wp2_with (fail)
   go_meet
   case rel=>exact ⟨true,rfl,by show _=_;rw [HKD.out,decide_eq_true HK0.out,Bool.true_or],HX2⟩
  have HK0:=Lib.hid h0
  have hk1:decide (0 < (kd:Int))=false:=decide_eq_false (by omega)
  have hk2:¬ (0 < (kd:Int)):=by omega
  clear HX1 h0
  go_wp2_with (fail)
  refine HT.out.mono ?_
  rintro e w3 ⟨rfl,HX3⟩
  clear HT
  by_cases hk:kindAt E i=1
  ·have HT:=Lib.hid (HX3.out.is 1 (decide_eq_true hk))
   have HK:=Lib.hid hk
   clear HX3 hk
   go_wp2_with (fail)
   refine HT.out.mono ?_
   rintro e w4 ⟨rfl,HX4⟩
   clear HT
   obtain ⟨t1,ht1⟩:∃ t,tokAt E (i + 1)=t:=⟨_,rfl⟩
   have Ht1:=Lib.hid ht1
   have hT:=HX4.out.word1 ht1
   unfold tokV at hT
   have HT:=Lib.hid hT
   by_cases hn:t1.kind=1
   ·have HN:=Lib.hid hn
    have hn2:((t1.kind:Int) == 1)=true:=by simp [hn]
    clear HX4 hT hn ht1
    go_wp2_with (fail)
    refine HT.out.mono ?_
    rintro e w5 ⟨rfl,HX5⟩
    clear HT
    go_wp2_with (fail)
    go_meet
    case rel=>exact ⟨true,rfl,by show _=_;rw [HKD.out,decide_eq_false HK0.out,Bool.false_or,decide_eq_true HK.out,Bool.true_and,kindAt_tok,Ht1.out];exact decide_eq_true HN.out,HX5⟩
   ·have HN:=Lib.hid hn
    have hn2:((t1.kind:Int) == 1)=false:=by simp;omega
    clear HX4 hT hn ht1
    go_wp2_with (fail)
    refine HT.out.mono ?_
    rintro e w6 ⟨rfl,HX6⟩
    clear HT
    go_wp2_with (fail)
    go_meet
    case rel=>exact ⟨false,rfl,by show _=_;rw [HKD.out,decide_eq_false HK0.out,Bool.false_or,decide_eq_true HK.out,Bool.true_and,kindAt_tok,Ht1.out];exact decide_eq_false HN.out,HX6⟩
  have HT:=Lib.hid (HX3.out.is 1 (decide_eq_false hk))
  have HK:=Lib.hid hk
  clear HX3 hk
  go_wp2_with (fail)
  refine HT.out.mono ?_
  rintro e w7 ⟨rfl,HX7⟩
  clear HT
  go_wp2_with (fail)
  go_meet
  case rel=>exact ⟨false,rfl,by show _=_;rw [HKD.out,decide_eq_false HK0.out,Bool.false_or,decide_eq_false HK.out,Bool.false_and],HX7⟩
 case rest=>
  clear HX1
  obtain ⟨q,rfl,HQ1,HX8⟩:=hcut
  cases q with
  | true=>
   replace HQ:=Lib.hid ((ite_yes HQ1.out).symm.trans HQ.out)
   have hszP:=HX8.out.low
   have HC:=Lib.hid (HX8.out.part (declFn HX8.out.par (bd_ne HQ.out HNE.out)) HQ.out)
   clear HQ HX8 
   go_wp2_with (fail)
   refine HC.out _ (fun c a wz h hF=>⟨rfl,HB.out c a wz h hF⟩) ?_
   rintro x j2 v w9 hr HQ hv HX9
   clear hr HC
   obtain ⟨cc,rfl,vv,rfl,ff,hr,hf⟩:=hv
   obtain ⟨za,zc,hvf,_⟩:=hr.form
   subst hvf
   replace HX9:=Lib.hid (HX9.out.and (V:=fun W=>DvsV (From wc.heap.size) W (.slice za x.vars.length zc) x.vars) ⟨ff,hr,hf⟩ (fun k h=>h.up (k.keep (by show ¬ _;omega) (by show ¬ _;omega))))
   clear hr hf
   go_wp2_with (refine wpList_storeB rfl 57 _ _ rfl (w.heap.size) 0 [.int .i64 1,.int .i64 (t.at_:Int),.string ⟨#[]⟩,.string ⟨#[]⟩,.int .i64 0,.bool false,.bool false,.bool false,.slice none 0 0,.slice none 0 0,.slice none 0 0,.int .i64 0,.int .i64 0,.string ⟨#[]⟩,.string ⟨#[]⟩,.slice none 0 0,.slice none 0 0,.slice none 0 0,.slice none 0 0,.slice none 0 0,.slice none 0 0,.slice none 0 0,.int .i64 x.type,.string ⟨x.named.toArray⟩,.slice za x.vars.length zc,.int .i64 (x.at_:Int),.slice none 0 0,.slice none 0 0] rfl rfl HX9.out.box (Nat.le_of_ble_eq_true rfl) sz_Stm (by simp [Value.oneCell']) ?_)
   refine Named.mk (fun w10 hW=>?_)
   have HX10:=Lib.hid (HX9.out.store hW (Nat.le_of_ble_eq_true rfl))
   clear hW HX9
   go_wp2
   refine bodyPost_ret (outBox Tryz.results139 HX10.out.box rfl _ Tryz.underlying57 rfl sz_Stm) rfl ?_
   rw [← HQ.out]
   exact ⟨_,rfl,⟨_,rfl,StmF.mono (Wide.from (Nat.le_of_lt hszP)) _ (StmF.of RfF.zero AstF.zero AstsV.nil ArgsV.nil HX10.out.q.2 opts_nil stms_nil)⟩,HX10.out.par,HX10.out.fp⟩
  | false=>
   replace HQ:=Lib.hid ((ite_no HQ1.out).symm.trans HQ.out)
   have hszP:=HX8.out.low
   have HC:=Lib.hid (HX8.out.part (HIH.out.stmt HX8.out.par (bd_ne HQ.out HNE.out)) HQ.out)
   clear HQ HX8 
   go_wp2_with (fail)
   refine HC.out _ (fun c a wz h hF=>⟨rfl,HB.out c a wz h hF⟩) ?_
   rintro x j2 v w11 hr HQ hv HX11
   clear hr HC
   obtain ⟨cs,rfl,hs⟩:=hv
   obtain ⟨hl,ho⟩:=hs.one
   have hsz:(Tryz.prog.info? 57).map (·.size)=some cs.length:=by rw [hl];exact sz_Stm
   have HO:=Lib.hid ho
   have hszD:=HX11.out.low
   have HSs:=Lib.hid hs
   have hZ28:Holds (w11.alloc (.cells #[.int .i64 0,.int .i64 0,.string ⟨#[]⟩,.string ⟨#[]⟩,.int .i64 0,.bool false,.bool false,.bool false,.slice none 0 0,.slice none 0 0,.slice none 0 0,.int .i64 0,.int .i64 0,.string ⟨#[]⟩,.string ⟨#[]⟩,.slice none 0 0,.slice none 0 0,.slice none 0 0,.slice none 0 0,.slice none 0 0,.slice none 0 0,.slice none 0 0,.int .i64 0,.string ⟨#[]⟩,.slice none 0 0,.int .i64 0,.slice none 0 0,.slice none 0 0] 57)) w11.heap.size 57 [.int .i64 0,.int .i64 0,.string ⟨#[]⟩,.string ⟨#[]⟩,.int .i64 0,.bool false,.bool false,.bool false,.slice none 0 0,.slice none 0 0,.slice none 0 0,.int .i64 0,.int .i64 0,.string ⟨#[]⟩,.string ⟨#[]⟩,.slice none 0 0,.slice none 0 0,.slice none 0 0,.slice none 0 0,.slice none 0 0,.slice none 0 0,.slice none 0 0,.int .i64 0,.string ⟨#[]⟩,.slice none 0 0,.int .i64 0,.slice none 0 0,.slice none 0 0]:=Holds.new w11 57 #[.int .i64 0,.int .i64 0,.string ⟨#[]⟩,.string ⟨#[]⟩,.int .i64 0,.bool false,.bool false,.bool false,.slice none 0 0,.slice none 0 0,.slice none 0 0,.int .i64 0,.int .i64 0,.string ⟨#[]⟩,.string ⟨#[]⟩,.slice none 0 0,.slice none 0 0,.slice none 0 0,.slice none 0 0,.slice none 0 0,.slice none 0 0,.slice none 0 0,.int .i64 0,.string ⟨#[]⟩,.slice none 0 0,.int .i64 0,.slice none 0 0,.slice none 0 0]
   have HZ28:=Lib.hid hZ28
   clear hs ho hZ28
   go_wp2_with (refine wpList_storeB rfl 57 _ _ rfl (w11.heap.size) 0 cs rfl rfl HZ28.out (by rw [hl];exact Nat.le_of_ble_eq_true rfl) hsz HO.out ?_)
   refine Named.mk (fun w12 hW=>?_)
   have hD:=(HZ28.out.stored hW (by rw [hl];exact Nat.le_of_ble_eq_true rfl)).all (by rw [hl];rfl)
   have hs2:StmF (From wc.heap.size) w12 x cs:=StmF.up (Keep.of_fp (p:=p) (by rw [hW];exact Fp.setR (Nat.le_refl _) cs 0 (Fp.of_below ((Below.refl _ _).alloc (Nat.le_refl _) _))) (by show ¬ _;omega)) _ HSs.out
   have HX12:=Lib.hid ((HX11.out.newbox hW).and (V:=fun W=>Holds W w11.heap.size 57 cs∧StmF (From wc.heap.size) W x cs) ⟨hD,hs2⟩ (fun k h=>⟨F2.holds k h.1 (by omega) (by omega),StmF.up (k.keep (by show ¬ _;omega) (by show ¬ _;omega)) _ h.2⟩))
   clear hW hD hs2 HX11 HSs HZ28
   obtain hs | hs:=tf (sees E j2 [[117,110,108,101,115,115]])
   ·have HT:=Lib.hid (HX12.out.takesY [[117,110,108,101,115,115]] #[.string ⟨#[117,110,108,101,115,115]⟩] rfl (by decide) hs)
    replace HQ:=Lib.hid ((ite_yes hs).symm.trans HQ.out)
    clear HX12 hs
    go_wp2_with (fail)
    refine HT.out.mono ?_
    rintro e w13 ⟨rfl,HX13⟩
    clear HT
    have hlowd:=HX13.out.low
    have HC:=Lib.hid (HX13.out.drew.part (HIH.out.stmt HX13.out.drew.par (bd_ne HQ.out HNE.out)) HQ.out)
    have HD:=Lib.hid HX13.out.q.2.1
    go_wp2
    refine wp_region_T (S:=(fun w':World=>Holds w' w11.heap.size 57 cs)) [6] (by kernel_rfl) ?_
    have HSx:Hid (Holds w13.drew w11.heap.size 57 cs):=(HX13.out.drew.q.2.1)
    refine wpAnyT_take [6] (i:=0) (oi:={ dst:=some 30,op:=Op.move (Operand.tmp 3),type:=3,pos:="parse.go:311",after:=#[],guard:=none }) (v:=.int .i64 (t.at_:Int)) rfl (by kernel_rfl) (by kernel_rfl) (by kernel_rfl) (by kernel_rfl) (by kernel_rfl) (by kernel_rfl) (fun _ _ _ h=>h) (Or.inl ⟨by rfl,?_⟩) HSx.out ?_
    ·intro w hSw
     (try dsimp only at hSw)
     go_simp
    try simp only [Act.put,List.setIfInBounds_toArray,List.set_cons_zero,List.set_cons_succ]
    refine wpAnyT_take [6] (i:=1) (oi:={ dst:=some 31,op:=Op.load 57 (Operand.tmp 4),type:=57,pos:="parse.go:311",after:=#[],guard:=none }) (v:=.agg cs.toArray) rfl (by kernel_rfl) (by kernel_rfl) (by kernel_rfl) (by kernel_rfl) (by kernel_rfl) (by kernel_rfl) (fun _ _ _ h=>h) (yieldsIf_load_mid (by rfl) 57 _ rfl (w11.heap.size) 0 rfl cs _ (fun w hw=>Holds.range hw (n:=28) (by rw [List.drop_zero];exact List.take_of_length_le (by omega))) Tryz.underlying57 rfl hsz) HSx.out ?_
    try simp only [Act.put,List.setIfInBounds_toArray,List.set_cons_zero,List.set_cons_succ]
    refine wpAnyT_take [6] (i:=2) (oi:={ dst:=some 32,op:=Op.move (Operand.tmp 0),type:=59,pos:="parse.go:311",after:=#[],guard:=none }) (v:=.pointer (some ⟨p,0,none⟩)) rfl (by kernel_rfl) (by kernel_rfl) (by kernel_rfl) (by kernel_rfl) (by kernel_rfl) (by kernel_rfl) (fun _ _ _ h=>h) (Or.inl ⟨by rfl,?_⟩) HSx.out ?_
    ·intro w hSw
     (try dsimp only at hSw)
     go_simp
    try simp only [Act.put,List.setIfInBounds_toArray,List.set_cons_zero,List.set_cons_succ]
    refine wpAnyT_ready (rs:=[3]) (by kernel_rfl) (by simp) ?_
    refine AllReadyT.cons (o:={ dst:=some 33,op:=Op.call { callee:=Callee.value (Operand.func 159),args:=#[Operand.tmp 32],argTypes:=#[59] },type:=57,pos:="parse.go:311",after:=#[{ on:=2,ground:=Ground.data }],guard:=none }) rfl (fun K hK=>?_) AllReadyT.nil
    go_simp
    go_at_call 159
    refine HC.out _ (fun c a wz h hF=>⟨rfl,HB.out c a wz h hF⟩) ?_
    rintro y j6 v w6 hr HQ hv HX6
    clear hr HC
    obtain ⟨ds,rfl,hs6⟩:=hv
    obtain ⟨hl6,ho6⟩:=hs6.one
    have HO6:=Lib.hid ho6
    have HS6:=Lib.hid hs6
    clear ho6 hs6
    have hsz6:=HX6.out.low
    have hD6:=HX6.out.q.2.1
    refine hK.out _ _ (fun _=>hD6) ?_
    clear hK K
    try simp only [Act.put,List.setIfInBounds_toArray,List.set_cons_zero,List.set_cons_succ]
    refine wpAnyT_ready (rs:=[4]) (by kernel_rfl) (by simp) ?_
    refine AllReadyT.cons (o:={ dst:=some 34,op:=Op.buildSlice 52 2 #[(0,Operand.tmp 31),(1,Operand.tmp 33)],type:=52,pos:="parse.go:311",after:=#[{ on:=1,ground:=Ground.data },{ on:=3,ground:=Ground.data }],guard:=none }) rfl (fun K hK=>?_) AllReadyT.nil
    rw [if_pos (by rfl)]
    obtain ⟨i0,z0,hi0,hz0,hs0,_,_⟩:=info_of listStm_info
    refine wp_buildSlice2 (size:=28) _ _ rfl Tryz.underlying52 hi0 hz0 hs0 (by omega) (by omega) cs ds rfl rfl hl hl6 ?_
    have HX7:=Lib.hid (HX6.out.alloc (.cells (cs ++ ds).toArray 57))
    have hv7:StmsV (From (w.heap.size + 1)) (w6.alloc (.cells (cs ++ ds).toArray 57)) (.slice (some ⟨w6.heap.size,0,none⟩) 2 2) [x,y]:=⟨cs ++ ds,RowL.of_holds (Holds.new w6 57 (cs ++ ds).toArray) hsz6 (by omega) (by simp [hl,hl6]),StmsF.two (StmF.mono (Wide.from hszP) _ HX7.out.q.2.2) (StmF.up (Keep.below ((Below.refl _ _).alloc (Nat.le_refl _) _)) _ (StmF.mono (Wide.from hlowd) _ HS6.out))⟩
    clear hi0 hz0 hs0
    refine hK.out _ _ (fun _=>HX7.out.q.2.1) ?_
    clear hK K
    try simp only [Act.put,List.setIfInBounds_toArray,List.set_cons_zero,List.set_cons_succ]
    refine wpAnyT_ready (rs:=[5]) (by kernel_rfl) (by simp) ?_
    refine AllReadyT.cons (o:={ dst:=some 35,op:=Op.build 57 #[(0,Operand.const (Value.int IntKind.i64 15)),(1,Operand.tmp 30),(14,Operand.tmp 34)],type:=57,pos:="parse.go:311",after:=#[{ on:=0,ground:=Ground.data },{ on:=4,ground:=Ground.data }],guard:=none }) rfl (fun K hK=>?_) AllReadyT.nil
    go_simp
    refine hK.out _ _ (fun _=>HX7.out.q.2.1) ?_
    clear hK K
    try simp only [Act.put,List.setIfInBounds_toArray,List.set_cons_zero,List.set_cons_succ]
    refine wpAnyT_ready (rs:=[6]) (by kernel_rfl) (by simp) ?_
    refine AllReadyT.cons (o:={ dst:=none,op:=Op.store 57 (Operand.tmp 2) (Operand.tmp 35),type:=0,pos:="parse.go:311",after:=#[{ on:=5,ground:=Ground.data },{ on:=3,ground:=Ground.chain },{ on:=0,ground:=Ground.phase },{ on:=1,ground:=Ground.phase },{ on:=2,ground:=Ground.phase },{ on:=3,ground:=Ground.phase },{ on:=4,ground:=Ground.phase },{ on:=5,ground:=Ground.phase }],guard:=none }) rfl (fun K hK=>?_) AllReadyT.nil
    rw [if_pos (by rfl)]
    refine wp_storeB 57 _ _ rfl w.heap.size 0 [.int .i64 15,.int .i64 (t.at_:Int),.string ⟨#[]⟩,.string ⟨#[]⟩,.int .i64 0,.bool false,.bool false,.bool false,.slice none 0 0,.slice none 0 0,.slice none 0 0,.int .i64 0,.int .i64 0,.string ⟨#[]⟩,.string ⟨#[]⟩,.slice none 0 0,.slice none 0 0,.slice none 0 0,.slice none 0 0,.slice none 0 0,.slice none 0 0,.slice none 0 0,.int .i64 0,.string ⟨#[]⟩,.slice none 0 0,.int .i64 0,.slice none 0 0,.slice (some ⟨w6.heap.size,0,none⟩) 2 2] rfl rfl HX7.out.box (Nat.le_of_ble_eq_true rfl) sz_Stm (by simp [Value.oneCell']) ?_
    refine Named.mk (fun w8 hW=>?_)
    have HX8:=Lib.hid (HX7.out.store hW (Nat.le_of_ble_eq_true rfl))
    have hv8:=hv7.up (show Keep (From (w.heap.size + 1)) _ w8 from by rw [hW];exact Keep.setR (by show ¬ _;omega) _ 0)
    clear hW HX7
    refine hK.out _ _ (fun h=>absurd h (by decide)) ?_
    clear hK K
    try simp only [Act.put,List.setIfInBounds_toArray,List.set_cons_zero,List.set_cons_succ]
    refine wpAnyT_done (by kernel_rfl) ?_ _
    go_wp2
    refine bodyPost_ret (outBox Tryz.results139 HX8.out.box rfl _ Tryz.underlying57 rfl sz_Stm) rfl ?_
    rw [← HQ.out]
    exact ⟨_,rfl,⟨_,rfl,StmF.mono (Wide.from (Nat.le_succ _)) _ (StmF.of RfF.zero AstF.zero AstsV.nil ArgsV.nil DvsV.nil opts_nil hv8)⟩,HX8.out.par,HX8.out.fp⟩
   have HT:=Lib.hid (HX12.out.takesN [[117,110,108,101,115,115]] #[.string ⟨#[117,110,108,101,115,115]⟩] rfl (by decide) hs)
   replace HQ:=Lib.hid ((ite_no hs).symm.trans HQ.out)
   clear HX12 hs
   go_wp2_with (fail)
   refine HT.out.mono ?_
   rintro e w14 ⟨rfl,HX14⟩
   clear HT
   go_wp2_with (first | (refine wpList_load_mid rfl 57 _ rfl (w11.heap.size) 0 rfl cs _ (HX14.out.q.2.1.range (n:=28) (by rw [List.drop_zero];exact List.take_of_length_le (by omega))) Tryz.underlying57 rfl hsz ?_) | (refine wpList_storeB rfl 57 _ _ rfl (w.heap.size) 0 cs rfl rfl HX14.out.box (by rw [hl];exact Nat.le_of_ble_eq_true rfl) hsz HO.out ?_))
   refine Named.mk (fun w15 hW=>?_)
   have hX:=HX14.out.store hW (by rw [hl];exact Nat.le_of_ble_eq_true rfl)
   have hB:=hX.box.all (by rw [hl];rfl)
   have HX15:=Lib.hid hX
   have HBx:=Lib.hid hB
   clear hW HX14 hX hB
   go_wp2
   refine bodyPost_ret (outBox Tryz.results139 HBx.out rfl _ Tryz.underlying57 rfl hsz) rfl ?_
   rw [← HQ.out]
   exact ⟨_,rfl,⟨_,rfl,StmF.mono (Wide.from (Nat.le_of_lt hszP)) _ HX15.out.q.2.2⟩,HX15.out.par,HX15.out.fp⟩
end Go.Proofs.YtpoghableadkcaaGreatDoor
end
section
/- The walk of sequence (printed by mkseq.py). -/
namespace Go.Proofs.YtpoghableadkcaaGreatDoor
open Go.RowKit
set_option linter.unusedVariables false
set_option linter.unusedSimpArgs false

/-- What follows a statement. -/
def seqTl (E:Env) (g:Nat) (acc:List Stm) (j:Nat):R (List Stm):=
 if sees E (seps E E.L.length j) [[125],[58,58],[102,105],[111,100]] then .ok acc (seps E E.L.length j)
 else if sees E (j - 1) [[125],[102,105],[111,100]] || sees E j [[59],[45,62]] then (sequence E g (seps E E.L.length j)).bd fun l k=>.ok (acc ++ l) k else wrong E (seps E E.L.length j)
theorem seq_succ {E:Env} {g j:Nat} {acc:List Stm}:(sequence E (g + 1) j).bd (fun l k=>R.ok (acc ++ l) k)=(step E g j).bd fun s j1=>seqTl E g (acc ++ [s]) j1:=by
 rw [sequence,bd_bd]
 congr 1
 funext s j1
 unfold seqTl
 split
 ·rfl
 ·split
  ·rw [bd_bd];simp only [bd_ok,List.append_assoc,List.singleton_append]
  ·rw [wrong_eq];rfl
theorem seqTl_of {E:Env} {g j j2:Nat} {acc:List Stm} {q sm q4:Bool} (h1:seps E E.L.length j=j2) (h2:sees E (j - 1) [[125],[102,105],[111,100]]=q) (h3:sm=(q || sees E j [[59],[45,62]])) (h4:sees E j2 [[125],[58,58],[102,105],[111,100]]=q4):
  seqTl E g acc j=if q4 then .ok acc j2 else if sm then (sequence E g j2).bd fun l k=>.ok (acc ++ l) k else wrong E j2:=by
 unfold seqTl
 rw [h1,h2,h4,h3]
theorem seps_no {E:Env} {j:Nat} (h:sees E j [[59],[45,62]]=false):∀ n,seps E n j=j
 | 0=>rfl
 | n + 1=>by rw [seps,if_neg (by rw [h];decide)]
theorem seps_yes {E:Env} {j n:Nat} (h:sees E j [[59],[45,62]]=true):seps E (n + 1) j=seps E n (j + 1):=by rw [seps,if_pos h]
theorem cells_new {w:World} {t:TypeId} {cs:List Value}:∀ j u,cs[j]?=some u→(w.alloc (.cells cs.toArray t)).cell? ((⟨w.heap.size,0,none⟩:Addr).add j)=some u:=fun j u hu=>by
 rw [Addr.add_lit,Nat.zero_add,(Holds.new w t cs.toArray).cell];exact hu

set_option maxHeartbeats 4000000 in
set_option maxRecDepth 1000000 in
theorem sequenceFn {E:Env} {f:Nat} (ih:∀ g,g ≤ f→StmOk E g) {w:World} {p i:Nat} {vl:Value} (hP:Par w p vl E i) (hne:sequence E (f + 1) i ≠ .out):
  Calls Tryz.prog 104 #[.pointer (some ⟨p,0,none⟩)] w (Out p vl E w (StmsV (From w.heap.size)) (sequence E (f + 1) i)):=by
 obtain ⟨Rr,hRr⟩:∃ Rr,sequence E (f + 1) i=Rr:=⟨_,rfl⟩
 rw [hRr] at hne ⊢
 have HNE:=Lib.hid hne
 have HIH:=Lib.hid ih
 have HQ:Hid ((sequence E (f + 1) i).bd (fun l k=>R.ok ([] ++ l) k)=Rr):=by show _=_;rw [hRr];cases Rr <;> rfl
 have hAX:Ax StmsF w p vl E 57 28 (.slice none 0 0) [] [] w i:=Ax.start (fun P w=>by rw [StmsF]) 57 hP
 have HX:=Lib.hid hAX
 have HB:Hid (∀ c a wz,Rr=.bad c a→Fp p w wz→Out p vl E w (StmsV (From w.heap.size)) Rr (.panicked (badChain c a)) wz):=fun c a wz h hF=>by rw [h];exact ⟨rfl,hF⟩
 clear hne ih hP hRr hAX
 go_enter Tryz.func104,Tryz.ntmps104
 go_wp2
 go_loopg [3] (f + 1) (fun gk v wr=>∃ (acc:List Stm) (flat:List Value) (j:Nat),gk ≤ f + 1∧acc.length ≤ j∧Hid ((sequence E gk j).bd (fun l k=>R.ok (acc ++ l) k)=Rr)∧Hid (Ax StmsF w p vl E 57 28 v acc flat wr j))
 case atStart=>exact ⟨[],[],i,Nat.le_refl _,Nat.zero_le _,HQ,HX⟩
 case round=>
  clear HQ HX
  obtain ⟨acc,flat,j,hgk,hacc,HQ,HX⟩:=hrel
  cases gk with
  | zero=>exact absurd (HQ.out.symm.trans (by rw [sequence];rfl)) HNE.out
  | succ gk=>
   replace HQ:=Lib.hid (seq_succ.symm.trans HQ.out)
   have HLT:=Lib.hid (owns_lt HX.out.own)
   have HSZ:=Lib.hid HX.out.fp.size
   have hj65:=HX.out.few
   have HC:=Lib.hid (HX.out.part rowStm ((HIH.out gk (by omega)).step HX.out.par (bd_ne HQ.out HNE.out)) HQ.out)
   clear HQ HX
   go_wp2_with (fail)
   refine HC.out _ (fun c a wz h hF=>⟨rfl,HB.out c a wz h hF⟩) ?_
   rintro s j1 u w1 hr HQ hv HX
   have hj1:=((btS E gk).step _ _ _ hr).1
   obtain ⟨cs,rfl,hs⟩:=hv
   obtain ⟨hl,ho⟩:=hs.one
   have hsz1:=HX.out.fp.size
   have hj651:=HX.out.few
   have HO:Hid (∀ u ∈ cs,u.oneCell'=true):=by have h:=List.all_eq_true.1 ho;exact fun u hu=>h u hu
   have HS:=Lib.hid (StmsF.sing hs)
   have HXa:=Lib.hid (HX.out.alloc rowStm (.cells cs.toArray 57))
   obtain ⟨va,vc,hva,_⟩:=owns_form HX.out.own
   subst hva
   clear hr HC hs ho
   obtain ⟨i0,z0,hi0,hz0,hz1,hz2,hz3⟩:=info_of listStm_info
   go_wp2_with (first | (refine wpList_buildSlice1 (size:=28) rfl _ rfl Tryz.underlying52 hi0 hz0 hz1 (by omega) (by omega) cs rfl hl ?_) | (at_builtin;refine wpList_append_own_at _ rfl (.tmp 6) (.tmp 9) _ rfl w.heap.size 57 i0 z0 28 456 Tryz.underlying52 hi0 hz0 hz1 hz2 hz3 (by omega) _ acc.length flat rfl HXa.out.own ⟨w1.heap.size,0,none⟩ 1 1 cs rfl (by rw [hl]) cells_new HO.out (by unfold maxLen;omega) (by omega) (by simp;omega) ?_))
   intro v' w2 hown hgrow _ hat
   have HX2:=Lib.hid (HX.out.push rowStm HSZ.out HLT.out HS.out hown hgrow (by simpa using hat))
   clear hown hgrow hat HX HXa HS HO HLT HSZ hi0 hz0 hz1 hz2 hz3 hl hsz1
   obtain ⟨acc2,hacc2⟩:∃ l,l=acc ++ [s]:=⟨_,rfl⟩
   obtain ⟨fl2,hfl2⟩:∃ l,l=flat ++ cs:=⟨_,rfl⟩
   rw [← hacc2,← hfl2] at HX2
   rw [← hacc2] at HQ
   have hal:acc2.length ≤ j1:=by rw [hacc2];simp;omega
   clear hacc2 hfl2 hacc
   obtain ⟨j0,rfl⟩:∃ j0,j1=j0 + 1:=⟨j1 - 1,by omega⟩
   obtain ⟨t,ht⟩:∃ t,tokAt E j0=t:=⟨_,rfl⟩
   have Ht:=Lib.hid ht
   clear ht
   have hlt:j0 < E.L.length:=HX2.out.par.le
   obtain ⟨gl,cl,hvl,hcl1,hcl2,_⟩:=HX2.out.par.tok hlt
   obtain ⟨N,hN⟩:∃ N,E.L.length=N:=⟨_,rfl⟩
   have HN:=Lib.hid hN
   have hq1:∀ w',Par w' p vl E (j0 + 1)→w'.cell? ⟨p,1,none⟩=some (.slice (some ⟨gl,0,none⟩) N cl):=fun w' h=>by rw [← hN,← hvl];exact h.cells.2.1
   have hq2:∀ w',Par w' p vl E (j0 + 1)→w'.cell? ⟨p,2,none⟩=some (.int .i64 ((j0:Int) + 1)):=fun w' h=>h.cells.2.2.1
   have hqt:∀ w',Par w' p vl E (j0 + 1)→w'.cell? ⟨gl,j0 * 4,none⟩=some (.int .i64 (t.kind:Int))∧w'.cell? ⟨gl,j0 * 4 + 1,none⟩=some (.string ⟨t.text.toArray⟩)∧w'.cell? ⟨gl,j0 * 4 + 2,none⟩=some (.int .i64 (t.num:Int))∧w'.cell? ⟨gl,j0 * 4 + 3,none⟩=some (.int .i64 (t.at_:Int)):=fun w' h=>by
    obtain ⟨g,cap,h1,_,_,_,h2,h3,h4,h5⟩:=h.tok hlt
    rw [hvl] at h1
    injection h1 with h1 _ _
    injection h1 with h1
    injection h1 with h1
    subst h1
    rw [Ht.out] at h2 h3 h4 h5
    exact ⟨h2,h3,h4,h5⟩
   have hq3:=fun w' h=>(hqt w' h).1
   have hq4:=fun w' h=>(hqt w' h).2.1
   have hq5:=fun w' h=>(hqt w' h).2.2.1
   have hq6:=fun w' h=>(hqt w' h).2.2.2
   rw [hN] at hlt hcl1
   have HPd:Hid (Par w2 p vl E (j0 + 1)):=HX2.out.par
   have hpw:p < w2.heap.size:=HX2.out.par.lt
   clear hqt hvl hN hj1
   have hi0:(0:Int) ≤ (j0:Int):=Int.natCast_nonneg j0
   have hi1:(j0:Int) < (N:Int):=by omega
   have hwj:IntKind.i64.wrap (j0:Int)=(j0:Int):=by rw [IntKind.wrap_i64];omega
   go_wp2_with (fail)
   go_region_held3 (fun w':World=>Par w' p vl E (j0 + 1)) (repeat' first | (with_reducible exact HPd.out) | with_reducible apply Par.drew | with_reducible apply Par.alloc | (with_reducible refine Par.far ?_ hpw _)) (first | fail)
   obtain ⟨w3,hw3⟩:∃ W,W=(w2.alloc (.cells #[.int .i64 (t.kind:Int),.string ⟨t.text.toArray⟩,.int .i64 (t.num:Int),.int .i64 (t.at_:Int)] 93)).drew:=⟨_,rfl⟩
   have hX3:Ax StmsF w p vl E 57 28 v' acc2 fl2 w3 (j0 + 1):=by rw [hw3];exact (HX2.out.alloc rowStm _).drew rowStm
   have hB3:Holds w3 w2.heap.size 93 [.int .i64 (t.kind:Int),.string ⟨t.text.toArray⟩,.int .i64 (t.num:Int),.int .i64 (t.at_:Int)]:=by rw [hw3];exact Holds.new w2 93 #[.int .i64 (t.kind:Int),.string ⟨t.text.toArray⟩,.int .i64 (t.num:Int),.int .i64 (t.at_:Int)]
   rw [← hw3]
   have HX3:=Lib.hid hX3
   have e0:w3.cell? ⟨w2.heap.size,0,none⟩=some (.int .i64 (t.kind:Int)):=hB3.cell 0
   have e1:(w3.alloc (.cells #[.string ⟨#[125]⟩,.string ⟨#[102,105]⟩,.string ⟨#[111,100]⟩] 9)).cell? ⟨w2.heap.size,1,none⟩=some (.string ⟨t.text.toArray⟩):=(hB3.alloc (.cells #[.string ⟨#[125]⟩,.string ⟨#[102,105]⟩,.string ⟨#[111,100]⟩] 9)).cell 1
   clear hw3 hX3 hB3 HX2 hq1 hq2 hq3 hq4 hq5 hq6 HPd
   go_upto_region 4 with (fail)
   go_cut [5] (fun s5 wx=>∃ q:Bool,s5=.bool q∧Hid (sees E j0 [[125],[102,105],[111,100]]=q)∧Hid (Ax StmsF w p vl E 57 28 v' acc2 fl2 wx (j0 + 1)))
   case first=>
    have HXr:=Lib.hid (HX3.out.alloc rowStm (.cells #[.string ⟨#[125]⟩,.string ⟨#[102,105]⟩,.string ⟨#[111,100]⟩] 9))
    by_cases hk:t.kind=4
    ·have hk':((t.kind:Int) == 4)=true:=by simp;omega
     obtain ⟨r,hr⟩:∃ r,([[125],[102,105],[111,100]]:List Bs).contains t.text=r:=⟨_,rfl⟩
     have hC:=containsFn [[125],[102,105],[111,100]] t.text (Holds.new w3 9 #[.string ⟨#[125]⟩,.string ⟨#[102,105]⟩,.string ⟨#[111,100]⟩]) (by decide)
     rw [hr] at hC
     have HC:=Lib.hid hC
     have HR:Hid (sees E j0 [[125],[102,105],[111,100]]=r):=by show _=_;unfold sees;rw [kindAt_tok,textAt_tok,Ht.out,hk,hr];rfl
     clear hr hC hk
     go_wp2_with (fail)
     refine HC.out.mono ?_
     rintro e w4 ⟨rfl,rfl⟩
     go_wp2_with (fail)
     go_meet
     case rel=>exact ⟨r,rfl,HR,HXr⟩
    ·have hk':((t.kind:Int) == 4)=false:=by simp;omega
     have HR:Hid (sees E j0 [[125],[102,105],[111,100]]=false):=by show _=_;unfold sees;rw [kindAt_tok,Ht.out,beq_false_of_ne hk];rfl
     clear hk
     go_wp2_with (fail)
     go_meet
     case rel=>exact ⟨false,rfl,HR,HX3⟩
   case rest=>
    clear HX3 e0 e1
    obtain ⟨q,rfl,HQ3,HX4⟩:=hcut
    obtain ⟨gq,hgq⟩:∃ n,n=gk:=⟨gk,rfl⟩
    go_wp2
    go_loopw [5] (fun x wx=>∃ (j2:Nat) (sm:Bool),x=.bool sm∧j0 + 1 ≤ j2∧j2 ≤ 65536∧Hid (seps E E.L.length (j0 + 1)=seps E (E.L.length - (j2 - (j0 + 1))) j2)∧Hid ((j2=j0 + 1∧sm=q)∨(j0 + 1 < j2∧sm=true∧sees E (j0 + 1) [[59],[45,62]]=true))∧Hid (Ax StmsF w p vl E 57 28 v' acc2 fl2 wx j2)) (fun _ wx=>(70000 - intOf ((wx.cell? ⟨p,2,none⟩).getD undef)).toNat)
    case atStart=>exact ⟨j0 + 1,q,rfl,Nat.le_refl _,HX4.out.few,by show _=_;rw [Nat.sub_self,Nat.sub_zero],.inl ⟨rfl,rfl⟩,HX4⟩
    case round=>
     clear HX4
     obtain ⟨j2,sm,hx,hj2,hj265,HSM,HCs,HX⟩:=hrel
     subst hx
     have HP0:=Lib.hid HX.out.par
     obtain hs | hs:=tf (sees E j2 [[59],[45,62]])
     ·have HT:=Lib.hid (HX.out.takes rowStm [[59],[45,62]] #[.string ⟨#[59]⟩,.string ⟨#[45,62]⟩] rfl (by decide) true hs)
      have HS:=Lib.hid hs
      clear HX hs
      go_wp2_with (fail)
      refine HT.out.mono ?_
      rintro e w5 ⟨rfl,HX5⟩
      have hj5:=HX5.out.few
      clear HT
      go_wp2
      refine ⟨⟨j2 + 1,true,rfl,by omega,hj5,?_,?_,HX5⟩,?_⟩
      ·have hlt:=sees_lt HS.out
       show _=_
       rw [HSM.out,show E.L.length - (j2 - (j0 + 1))=(E.L.length - (j2 + 1 - (j0 + 1))) + 1 by omega,seps_yes HS.out]
      ·refine .inr ⟨by omega,rfl,?_⟩
       rcases HCs.out with h | h
       ·rw [← h.1];exact HS.out
       ·exact h.2.2
      ·rw [HX5.out.par.cells.2.2.1,HP0.out.cells.2.2.1]
       simp [intOf]
       omega
     ·have hsm:seps E E.L.length (j0 + 1)=j2:=by rw [HSM.out,seps_no hs]
      have hq2:sm=(q || sees E (j0 + 1) [[59],[45,62]]):=by
       rcases HCs.out with h | h
       ·rw [h.2,← h.1,hs,Bool.or_false]
       ·rw [h.2.1,h.2.2,Bool.or_true]
      have HT:=Lib.hid (HX.out.takes rowStm [[59],[45,62]] #[.string ⟨#[59]⟩,.string ⟨#[45,62]⟩] rfl (by decide) false hs)
      obtain ⟨q4,hq4⟩:∃ b,sees E j2 [[125],[58,58],[102,105],[111,100]]=b:=⟨_,rfl⟩
      have HQ5:=Lib.hid ((seqTl_of (acc:=acc2) (g:=gk) hsm HQ3.out hq2 hq4).symm.trans HQ.out)
      have HQ4:=Lib.hid hq4
      clear HX hs hsm hq2 hq4 HSM HCs HQ
      go_wp2_with (fail)
      refine HT.out.mono ?_
      rintro e w5 ⟨rfl,HX5⟩
      have HT2:=Lib.hid (HX5.out.see0 rowStm [[125],[58,58],[102,105],[111,100]] #[.string ⟨#[125]⟩,.string ⟨#[58,58]⟩,.string ⟨#[102,105]⟩,.string ⟨#[111,100]⟩] rfl (by decide) HQ4.out)
      clear HT HX5
      cases q4 with
      | true=>
       replace HQ5:=Lib.hid ((ite_yes rfl).symm.trans HQ5.out)
       go_wp2_with (fail)
       refine HT2.out.mono ?_
       rintro e w6 ⟨rfl,HX6⟩
       have hPost:Out p vl E w (StmsV (From w.heap.size)) Rr (.returned v') w6:=by
        rw [← HQ5.out]
        exact ⟨_,rfl,⟨fl2,RowL.of_owns HX6.out.own (fun k hk=>hk),StmsF.mono Wide.of_but acc2 HX6.out.el⟩,HX6.out.par,HX6.out.fp⟩
       have HPost:=Lib.hid hPost
       clear hPost HT2
       go_wp2
       go_ret
       exact HPost.out
      | false=>
       replace HQ5:=Lib.hid ((ite_no rfl).symm.trans HQ5.out)
       go_wp2_with (fail)
       refine HT2.out.mono ?_
       rintro e w6 ⟨rfl,HX6⟩
       clear HT2
       have hj6:=HX6.out.few
       cases sm with
       | false=>
        replace HQ5:=Lib.hid ((ite_no rfl).symm.trans HQ5.out)
        have HC:=Lib.hid (HX6.out.wrong HQ5.out)
        clear HX6
        go_wp2_with (fail)
        exact HC.out _ (fun c a wz h hF=>⟨rfl,HB.out c a wz h hF⟩)
       | true=>
        replace HQ5:=Lib.hid ((ite_yes rfl).symm.trans HQ5.out)
        go_wp2
        go_roundg gk
        case measure=>omega
        case rel=>exact ⟨acc2,fl2,j2,by omega,by omega,HQ5,HX6⟩
end Go.Proofs.YtpoghableadkcaaGreatDoor
end
section
/- All contracts of what reads statements, at any fuel. -/
namespace Go.Proofs.YtpoghableadkcaaGreatDoor
open Go.RowKit

theorem stmOk0 (E:Env):StmOk E 0:=by
 constructor <;> intros <;> rename_i h <;> exact absurd (by first | rw [stmt] | rw [body] | rw [sequence] | rw [step] | rw [options]) h
theorem stmOk_le (E:Env):∀ n f,f ≤ n→StmOk E f
 | 0,f,h=>by
  obtain rfl:f=0:=by omega
  exact stmOk0 E
 | n + 1,f,h=>by
  rcases Nat.lt_or_ge n f with h1 | h1
  ·obtain rfl:f=n + 1:=by omega
   have ih:=stmOk_le E n
   exact ⟨fun hP hne=>stmtFn (ih n (Nat.le_refl _)) hP hne,fun hP hne=>bodyFn (ih n (Nat.le_refl _)) hP hne,fun hP hne=>sequenceFn ih hP hne,fun hP hne=>stepFn (ih n (Nat.le_refl _)) hP hne,
    fun stop hP hne=>optionsFn ih (fun g i a k hg h=>((btS E g).sequence i a k h).1) stop hP hne⟩
  ·exact stmOk_le E n f h1
theorem stmOk (E:Env) (f:Nat):StmOk E f:=stmOk_le E f f (Nat.le_refl _)
end Go.Proofs.YtpoghableadkcaaGreatDoor
end
