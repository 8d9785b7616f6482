/- Cau, Bnd, Res, Eva, joined. -/
import Derived.Test.YtpoghableadkcaaDoorUn
import Derived.Defers
import Derived.Recover
import Derived.Test.YtpoghableadkcaaDoorM17
import Derived.Test.YtpoghableadkcaaDoorM18
import Derived.Test.YtpoghableadkcaaDoorM02
section
/- caught: what is thrown is told. -/
namespace Go.Proofs.YtpoghableadkcaaDoor
open Go.RowKit
set_option linter.unusedVariables false
set_option linter.unusedSimpArgs false

set_option maxRecDepth 100000 in
theorem cau1_panicking (bg c a:Nat) {x y:Value} (w:World) (hg:Holds w bg 26 [x,y]):
  CallsD Tryd.prog 18 #[.pointer (some ⟨bg,0,none⟩)] (.panicking (badChain c a)) w fun e u' w'=>
   e=.returned (.tuple #[])∧u'=.panicking [{ v:=.iface 26 (mish c a),recovered:=true }]∧Holds w' bg 26 [.int .i64 (c:Int),.int .i64 (a:Int)]∧Fp bg w w':=by
 have hta:∀ w,Sem.run Tryd.prog (Instr.typeAssert (.iface 26 (.agg #[.int .i64 (c:Int),.int .i64 (a:Int)])) 20 26 true) w=.ok (.tuple #[.agg #[.int .i64 (c:Int),.int .i64 (a:Int)],.bool true]) w:=by
  intro w;kernel_rfl
 have hg1:=hg.alloc (.cells #[.int .i64 (c:Int),.int .i64 (a:Int)] 26)
 have hN:=Holds.new w 26 #[.int .i64 (c:Int),.int .i64 (a:Int)]
 have HF1:Hid (Fp bg w (w.alloc (.cells #[.int .i64 (c:Int),.int .i64 (a:Int)] 26))):=(Fp.refl bg w).bel ((Below.refl _ _).alloc (Nat.le_refl _) _)
 generalize hw1:w.alloc (.cells #[.int .i64 (c:Int),.int .i64 (a:Int)] 26)=w1 at hg1 HF1 hN
 have n0:w1.cell? ⟨w.heap.size,0,none⟩=some (.int .i64 (c:Int)):=hN.cell 0
 have n1:w1.cell? ⟨w.heap.size,1,none⟩=some (.int .i64 (a:Int)):=hN.cell 1
 have HF:Hid (Holds ((w1.setCell ⟨bg,0,none⟩ (.int .i64 (c:Int))).setCell ⟨bg,1,none⟩ (.int .i64 (a:Int))) bg 26 [.int .i64 (c:Int),.int .i64 (a:Int)]):=(hg1.put 0 (.int .i64 (c:Int))).put 1 (.int .i64 (a:Int))
 have HB:Hid (Fp bg w ((w1.setCell ⟨bg,0,none⟩ (.int .i64 (c:Int))).setCell ⟨bg,1,none⟩ (.int .i64 (a:Int)))):=(HF1.out.set 0 _).set 1 _
 have g0:w1.cell? ⟨bg,0,none⟩=some x:=hg1.cell 0
 have g1:w1.cell? ⟨bg,1,none⟩=some y:=hg1.cell 1
 have gf0:=hg1.free 0
 have gf1:=hg1.free 1
 clear hg hg1 HF1 hN
 refine callsD_of_wpS Tryd.func18 rfl fun c₀ cs hu=>?_
 unfold badChain mish at *
 apply wpS_seq
 apply wpS_region
 simp [wpOpsS,go_sem,recoverD,hu,Tryd.ntmps18,Exit.thenS]
 refine wpS_of_wp ?_
 simp only [Array.replicate,List.replicate,List.setIfInBounds_toArray,List.set_cons_zero,List.set_cons_succ,List.append_toArray,List.cons_append,List.nil_append]
 go_wp2
 simp [bodyPostS,results,Tryd.results18]
 exact ⟨HF.out,HB.out⟩

set_option maxRecDepth 100000 in
theorem cau1_idle (bg:Nat) (w:World):
  CallsD Tryd.prog 18 #[.pointer (some ⟨bg,0,none⟩)] .returning w fun e u' w'=>e=.returned (.tuple #[])∧u'=.returning∧w'=w:=by
 refine callsD_of_wpS Tryd.func18 rfl fun c₀ cs hu=>?_
 apply wpS_seq
 apply wpS_region
 simp [wpOpsS,go_sem,recoverD,hu,Tryd.ntmps18,Exit.thenS]
 refine wpS_of_wp ?_
 simp only [Array.replicate,List.replicate,List.setIfInBounds_toArray,List.set_cons_zero,List.set_cons_succ,List.append_toArray,List.cons_append,List.nil_append]
 go_wp2
 cases c₀
 simp_all [bodyPostS,results,Tryd.results18]
/-- What is told. -/
def told:Option (Nat × Nat)→Value
 | none=>mish 0 0
 | some (c,a)=>mish c a
set_option maxRecDepth 100000 in
theorem caughtFn {g:Nat} {cs:Array Value} (eg:∀ args w,(callFunc g args).run Tryd.prog w=.ok (.enter g args) w) {w:World} (R:Option (Nat × Nat)→World→Prop) (hR:∀ r W W',w.heap.size < W.heap.size→Fp w.heap.size W W'→R r W→R r W')
  (hg:Calls Tryd.prog g cs (w.alloc (.cells #[.int .i64 0,.int .i64 0] 26)) fun e w'=>Holds w' w.heap.size 26 [.int .i64 0,.int .i64 0]∧((∃ v,e=.returned v∧R none w')∨∃ c a,e=.panicked (badChain c a)∧R (some (c,a)) w')):
  Calls Tryd.prog 7 #[.func (.func g) #[] cs] w fun e w'=>∃ r,e=.returned (told r)∧R r w':=by
 have hmf:∀ (fn:Fn) (first cap:Array Value) (w:World),(Instr.makeFunc fn first cap).run Tryd.prog w=.ok (.func fn first cap) w:=fun _ _ _ _=>rfl
 have HG:=Lib.hid hg
 have HR:=Lib.hid hR
 clear hg hR
 go_enter_defers Tryd.func7,Tryd.ntmps7
 go_wp2_with (fail)
 refine HG.out.mono ?_
 rintro e w1 ⟨hH,h⟩
 rcases h with ⟨v,rfl,h⟩ | ⟨c,a,rfl,h⟩
 ·have c0:w1.cell? ⟨w.heap.size,0,none⟩=some (.int .i64 0):=hH.cell 0
  have c1:w1.cell? ⟨w.heap.size,1,none⟩=some (.int .i64 0):=hH.cell 1
  have f0:=hH.free 0
  have f1:=hH.free 1
  have HH:Hid (Holds ((w1.setCell ⟨w.heap.size,0,none⟩ (.int .i64 0)).setCell ⟨w.heap.size,1,none⟩ (.int .i64 0)) w.heap.size 26 [.int .i64 0,.int .i64 0]):=(hH.put 0 (.int .i64 0)).put 1 (.int .i64 0)
  have HE:Hid (R none ((w1.setCell ⟨w.heap.size,0,none⟩ (.int .i64 0)).setCell ⟨w.heap.size,1,none⟩ (.int .i64 0))):=HR.out _ _ _ hH.lt (((Fp.refl _ w1).set 0 _).set 1 _) h
  clear h hH
  go_wp2
  refine leaves_cons (f:=18) (args:=#[.pointer (some ⟨w.heap.size,0,none⟩)]) (by simp) (by simp [go_sem]) ?_
  refine (cau1_idle w.heap.size _).mono ?_
  rintro e u' w'' ⟨rfl,rfl,hw''⟩
  rw [hw'']
  have d0:=HH.out.cell 0
  have d1:=HH.out.cell 1
  simp only [List.getElem?_cons_zero,List.getElem?_cons_succ] at d0 d1
  refine ⟨mish 0 0,?_,none,rfl,HE.out⟩
  simp [results,Tryd.results7,go_sem,d0,d1,mish]
 ·refine leaves_cons (f:=18) (args:=#[.pointer (some ⟨w.heap.size,0,none⟩)]) (by simp) (by simp [go_sem]) ?_
  refine (cau1_panicking w.heap.size c a _ hH).mono ?_
  rintro e u' w'' ⟨rfl,rfl,hG,hb⟩
  have d0:=hG.cell 0
  have d1:=hG.cell 1
  simp only [List.getElem?_cons_zero,List.getElem?_cons_succ] at d0 d1
  simp only [settle,List.dropWhile,Leaves]
  refine ⟨mish c a,?_,some (c,a),rfl,HR.out _ _ _ hH.lt hb h⟩
  simp [results,Tryd.results7,go_sem,d0,d1,mish]
end Go.Proofs.YtpoghableadkcaaDoor
end
section
/- Bounds of a text's words. -/
namespace Go.Proofs.YtpoghableadkcaaDoor
set_option linter.unusedVariables false

theorem sign_kind {i:Nat} {l:Bs} {t:Tk} {n:Nat} (h:sign i l=.ok (t,n)):t.kind ≤ 4∧t.num ≤ 2147483647:=by
 unfold sign at h
 split at h
 ·cases h
 ·split at h
  ·injection h with h;injection h with h _;subst h;exact ⟨Nat.le_refl _,Nat.zero_le _⟩
  ·cases h
 ·split at h
  ·injection h with h;injection h with h _;subst h;exact ⟨Nat.le_refl _,Nat.zero_le _⟩
  ·split at h
   ·injection h with h;injection h with h _;subst h;exact ⟨Nat.le_refl _,Nat.zero_le _⟩
   ·cases h
theorem word_bnd {i:Nat} {l:Bs} {t:Tk} {n:Nat} (h:word i l=.ok (t,n)):t.kind ≤ 4∧t.num ≤ 2147483647:=by
 unfold word at h
 split at h
 ·cases h
 ·split at h
  ·simp only at h
   split at h
   ·cases h
   ·injection h with h;injection h with h _;subst h
    refine ⟨?_,Nat.zero_le _⟩
    show (if _ then 4 else 1) ≤ 4
    split <;> omega
  ·split at h
   ·simp only at h
    split at h
    ·cases h
    ·rename_i hn
     injection h with h;injection h with h _;subst h
     simp only [Bool.or_eq_true,decide_eq_true_eq,not_or,Nat.not_lt] at hn
     exact ⟨by show 2 ≤ 4;omega,hn.1.2⟩
   ·split at h
    ·split at h
     ·cases h
     ·injection h with h;injection h with h _;subst h;exact ⟨by show 3 ≤ 4;omega,Nat.zero_le _⟩
    ·exact sign_kind h
theorem tk_bnd:∀ (n i:Nat) (l:Bs) (ts:List Tk),l.length < n→tk i l=.ok ts→ts.length ≤ l.length∧∀ t ∈ ts,t.at_ < i + l.length∧t.kind ≤ 4∧t.num ≤ 2147483647
 | 0,_,_,_,h,_=>by omega
 | n + 1,i,l,ts,hn,h=>by
  rw [tk_eq] at h
  cases hbl:blank false i l with
  | bad c a=>rw [hbl] at h;cases h
  | ok k=>
   have h1:=blank_ge _ _ _ _ hbl
   rw [hbl] at h
   simp only at h
   cases hd:l.drop (k - i) with
   | nil=>rw [hd] at h;injection h with h;subst h;exact ⟨Nat.zero_le _,fun t ht=>by cases ht⟩
   | cons c r=>
    rw [hd] at h
    simp only at h
    have h3:(c :: r).length=l.length - (k - i):=by rw [← hd,List.length_drop]
    have h7:0 < (c :: r).length:=by simp
    cases hw:word k (c :: r) with
    | bad x y=>rw [hw] at h;cases h
    | ok q=>
     obtain ⟨t,m⟩:=q
     have h2:=word_ge hw
     have h4:=word_at hw
     have h5:=word_bnd hw
     rw [hw] at h
     simp only at h
     cases ht:tk m ((c :: r).drop (m - k)) with
     | bad x y=>rw [ht] at h;cases h
     | ok ts'=>
      rw [ht] at h
      injection h with h
      subst h
      obtain ⟨h8,h9⟩:=tk_bnd n m _ ts' (by rw [List.length_drop];omega) ht
      rw [List.length_drop] at h8
      refine ⟨by simp;omega,fun u hu=>?_⟩
      rcases List.mem_cons.1 hu with rfl | hu
      ·exact ⟨by omega,h5⟩
      ·have h10:=h9 u hu
       rw [List.length_drop] at h10
       exact ⟨by omega,h10.2⟩
end Go.Proofs.YtpoghableadkcaaDoor
end
section
/- What Expr and Parse tell: plain. -/
namespace Go.Proofs.YtpoghableadkcaaDoor
set_option linter.unusedVariables false

def envOf (s:ByteArray) (L:List Tk):Env:=⟨s.data.toList,L⟩
def exprRes (f:Nat) (s:ByteArray):Res Ast:=
 match tokensOf s with
 | .bad c a=>.bad c a
 | .ok L=>match expr (envOf s L) f 0 0 with
  | .out=>.bad 0 0
  | .bad c a=>.bad c a
  | .ok x j=>if j < L.length then .bad 30 (placeAt (envOf s L) j) else if 60 < dA x then .bad 3 0 else .ok x
def parseRes (f g:Nat) (s:ByteArray):Res (List Unt):=
 match tokensOf s with
 | .bad c a=>.bad c a
 | .ok L=>match units (envOf s L) f g 0 with
  | .out=>.bad 0 0
  | .bad c a=>.bad c a
  | .ok l j=>if 60 < fo dU l then .bad 3 0 else .ok l
/-- There is fuel enough. -/
def exprFu (f:Nat) (s:ByteArray):Prop:=∀ L,tokensOf s=.ok L→expr (envOf s L) f 0 0 ≠ .out
def parseFu (f g:Nat) (s:ByteArray):Prop:=∀ L,tokensOf s=.ok L→units (envOf s L) f g 0 ≠ .out

mutual
def eqA:Ast→Ast→Bool
 | .mk k n a l ns is hs ks gs,.mk k' n' a' l' ns' is' hs' ks' gs'=>k == k' && decide (n=n') && a == a' && l == l' && ns == ns' && eqAs is is' && hs == hs' && eqAs ks ks' && eqGs gs gs'
def eqAs:List Ast→List Ast→Bool
 | [],[]=>true
 | a :: l,b :: m=>eqA a b && eqAs l m
 | _,_=>false
def eqG:Arg→Arg→Bool
 | .mk m a e,.mk m' a' e'=>m == m' && a == a' && eqA e e'
def eqGs:List Arg→List Arg→Bool
 | [],[]=>true
 | a :: l,b :: m=>eqG a b && eqGs l m
 | _,_=>false
end
mutual
theorem eqA_eq:∀ a b:Ast,eqA a b=true→a=b
 | .mk k n a l ns is hs ks gs,.mk k' n' a' l' ns' is' hs' ks' gs',h=>by
  simp only [eqA,Bool.and_eq_true,beq_iff_eq,decide_eq_true_eq] at h
  obtain ⟨⟨⟨⟨⟨⟨⟨⟨rfl,rfl⟩,rfl⟩,rfl⟩,rfl⟩,h1⟩,rfl⟩,h2⟩,h3⟩:=h
  rw [eqAs_eq is is' h1,eqAs_eq ks ks' h2,eqGs_eq gs gs' h3]
theorem eqAs_eq:∀ l m:List Ast,eqAs l m=true→l=m
 | [],[],h=>rfl
 | a :: l,b :: m,h=>by
  simp only [eqAs,Bool.and_eq_true] at h
  rw [eqA_eq a b h.1,eqAs_eq l m h.2]
 | [],b :: m,h=>by simp [eqAs] at h
 | a :: l,[],h=>by simp [eqAs] at h
theorem eqG_eq:∀ a b:Arg,eqG a b=true→a=b
 | .mk m a e,.mk m' a' e',h=>by
  simp only [eqG,Bool.and_eq_true,beq_iff_eq] at h
  obtain ⟨⟨rfl,rfl⟩,h1⟩:=h
  rw [eqA_eq e e' h1]
theorem eqGs_eq:∀ l m:List Arg,eqGs l m=true→l=m
 | [],[],h=>rfl
 | a :: l,b :: m,h=>by
  simp only [eqGs,Bool.and_eq_true] at h
  rw [eqG_eq a b h.1,eqGs_eq l m h.2]
 | [],b :: m,h=>by simp [eqGs] at h
 | a :: l,[],h=>by simp [eqGs] at h
end
end Go.Proofs.YtpoghableadkcaaDoor
end
section
/- Some texts, read: by evaluation. -/
namespace Go.Proofs.YtpoghableadkcaaDoor
set_option linter.unusedVariables false

def isAwake:Res (List Unt)→Bool
 | .ok [_,u]=>u.kind == 5 && (match u.body with | [.mk _ _ _ _ _ _ _ _ _ _ _ _ _ op _]=>op.length == 2 | _=>false)
 | _=>false
set_option maxRecDepth 100000 in
theorem awake1:isAwake (parseRes 14 6 ⟨#[98,121,116,101,32,120,59,32,105,110,105,116,32,123,32,105,102,32,58,58,32,120,32,62,32,48,32,45,62,32,120,45,45,59,32,58,58,32,101,108,115,101,32,102,105,32,125]⟩)=true:=by decide +kernel
set_option maxRecDepth 100000 in
theorem awake2:(match parseRes 14 6 ⟨#[105,110,105,116,32,123,32,120,32,61,32,125]⟩ with | .bad c a=>c == 30 && a == 11 | _=>false)=true:=by decide +kernel
set_option maxRecDepth 100000 in
theorem awake3:(match exprRes 14 ⟨#[49,32,43,32,50,32,42,32,51]⟩ with | .ok e=>(match e with | .mk _ _ n _ _ _ _ _ _=>n == [43]) | _=>false)=true:=by decide +kernel

def lvOps:List Bs:=[[124,124],[38,38],[124],[94],[38],[61,61],[33,61],[60],[60,61],[62],[62,61],[60,60],[62,62],[43],[45],[42],[47],[37]]
def lvL:List Nat:=[1,2,3,4,5,6,6,7,7,7,7,8,8,9,9,10,10,10]
def op_ (i:Nat):Bs:=lvOps.getD i []
def lv1 (i k:Nat):ByteArray:=⟨([120,32] ++ op_ i ++ [32,121,32] ++ op_ k ++ [32,122]).toArray⟩
def lv2 (i k:Nat):ByteArray:=⟨([40,120,32] ++ op_ i ++ [32,121,41,32] ++ op_ k ++ [32,122]).toArray⟩
def lv3 (i k:Nat):ByteArray:=⟨([120,32] ++ op_ i ++ [32,40,121,32] ++ op_ k ++ [32,122,41]).toArray⟩
def lvOk (i k:Nat):Bool:=match exprRes 18 (lv1 i k),exprRes 18 (lv2 i k),exprRes 18 (lv3 i k) with
 | .ok e,.ok l,.ok r=>if lvL.getD i 0 < lvL.getD k 0 then eqA e r else eqA e l
 | _,_,_=>false
set_option maxRecDepth 100000 in
theorem lv_all:((List.range 18).all fun i=>(List.range 18).all fun k=>lvOk i k)=true:=by decide +kernel
theorem lv_at {i k:Nat} (hi:i < 18) (hk:k < 18):lvOk i k=true:=
 List.all_eq_true.1 (List.all_eq_true.1 lv_all i (List.mem_range.2 hi)) k (List.mem_range.2 hk)
theorem exprFu_of {f:Nat} {s:ByteArray} (h:exprRes f s ≠ .bad 0 0):exprFu f s:=fun L hL he=>h (by unfold exprRes;rw [hL];simp only;rw [he])
theorem parseFu_of {f g:Nat} {s:ByteArray} (h:parseRes f g s ≠ .bad 0 0):parseFu f g s:=fun L hL he=>h (by unfold parseRes;rw [hL];simp only;rw [he])
end Go.Proofs.YtpoghableadkcaaDoor
end
