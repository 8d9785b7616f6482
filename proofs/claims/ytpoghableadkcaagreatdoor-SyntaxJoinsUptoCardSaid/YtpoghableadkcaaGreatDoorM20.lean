/- Cau, Bnd, Res, Eva, Prn, joined. -/
import Derived.Test.YtpoghableadkcaaGreatDoorUn
import Derived.Defers
import Derived.Recover
import Derived.Test.YtpoghableadkcaaGreatDoorM17
import Derived.Test.YtpoghableadkcaaGreatDoorM18
import Derived.Test.YtpoghableadkcaaGreatDoorM02
import Derived.Test.YtpoghableadkcaaGreatDoorM10
section
/- caught: what is thrown is told. -/
namespace Go.Proofs.YtpoghableadkcaaGreatDoor
open Go.RowKit
set_option linter.unusedVariables false
set_option linter.unusedSimpArgs false

set_option maxRecDepth 100000 in
theorem cau1_panicking (bg c a:Nat) {x y:Value} (w:World) (hg:Holds w bg 26 [x,y]):
  CallsD Tryz.prog 46 #[.pointer (some ⟨bg,0,none⟩)] (.panicking (badChain c a)) w fun e u' w'=>
   e=.returned (.tuple #[])∧u'=.panicking [{ v:=.iface 26 (mish c a),recovered:=true }]∧Holds w' bg 26 [.int .i64 (c:Int),.int .i64 (a:Int)]∧Fp bg w w':=by
 have hta:∀ w,Sem.run Tryz.prog (Instr.typeAssert (.iface 26 (.agg #[.int .i64 (c:Int),.int .i64 (a:Int)])) 20 26 true) w=.ok (.tuple #[.agg #[.int .i64 (c:Int),.int .i64 (a:Int)],.bool true]) w:=by
  intro w;kernel_rfl
 have hg1:=hg.alloc (.cells #[.int .i64 (c:Int),.int .i64 (a:Int)] 26)
 have hN:=Holds.new w 26 #[.int .i64 (c:Int),.int .i64 (a:Int)]
 have HF1:Hid (Fp bg w (w.alloc (.cells #[.int .i64 (c:Int),.int .i64 (a:Int)] 26))):=(Fp.refl bg w).bel ((Below.refl _ _).alloc (Nat.le_refl _) _)
 generalize hw1:w.alloc (.cells #[.int .i64 (c:Int),.int .i64 (a:Int)] 26)=w1 at hg1 HF1 hN
 have n0:w1.cell? ⟨w.heap.size,0,none⟩=some (.int .i64 (c:Int)):=hN.cell 0
 have n1:w1.cell? ⟨w.heap.size,1,none⟩=some (.int .i64 (a:Int)):=hN.cell 1
 have HF:Hid (Holds ((w1.setCell ⟨bg,0,none⟩ (.int .i64 (c:Int))).setCell ⟨bg,1,none⟩ (.int .i64 (a:Int))) bg 26 [.int .i64 (c:Int),.int .i64 (a:Int)]):=(hg1.put 0 (.int .i64 (c:Int))).put 1 (.int .i64 (a:Int))
 have HB:Hid (Fp bg w ((w1.setCell ⟨bg,0,none⟩ (.int .i64 (c:Int))).setCell ⟨bg,1,none⟩ (.int .i64 (a:Int)))):=(HF1.out.set 0 _).set 1 _
 have g0:w1.cell? ⟨bg,0,none⟩=some x:=hg1.cell 0
 have g1:w1.cell? ⟨bg,1,none⟩=some y:=hg1.cell 1
 have gf0:=hg1.free 0
 have gf1:=hg1.free 1
 clear hg hg1 HF1 hN
 refine callsD_of_wpS Tryz.func46 rfl fun c₀ cs hu=>?_
 unfold badChain mish at *
 apply wpS_seq
 apply wpS_region
 simp [wpOpsS,go_sem,recoverD,hu,Tryz.ntmps46,Exit.thenS]
 refine wpS_of_wp ?_
 simp only [Array.replicate,List.replicate,List.setIfInBounds_toArray,List.set_cons_zero,List.set_cons_succ,List.append_toArray,List.cons_append,List.nil_append]
 go_wp2
 simp [bodyPostS,results,Tryz.results46]
 exact ⟨HF.out,HB.out⟩

set_option maxRecDepth 100000 in
theorem cau1_idle (bg:Nat) (w:World):
  CallsD Tryz.prog 46 #[.pointer (some ⟨bg,0,none⟩)] .returning w fun e u' w'=>e=.returned (.tuple #[])∧u'=.returning∧w'=w:=by
 refine callsD_of_wpS Tryz.func46 rfl fun c₀ cs hu=>?_
 apply wpS_seq
 apply wpS_region
 simp [wpOpsS,go_sem,recoverD,hu,Tryz.ntmps46,Exit.thenS]
 refine wpS_of_wp ?_
 simp only [Array.replicate,List.replicate,List.setIfInBounds_toArray,List.set_cons_zero,List.set_cons_succ,List.append_toArray,List.cons_append,List.nil_append]
 go_wp2
 cases c₀
 simp_all [bodyPostS,results,Tryz.results46]
/-- What is told. -/
def told:Option (Nat × Nat)→Value
 | none=>mish 0 0
 | some (c,a)=>mish c a
set_option maxRecDepth 100000 in
theorem caughtFn {g:Nat} {cs:Array Value} (eg:∀ args w,(callFunc g args).run Tryz.prog w=.ok (.enter g args) w) {w:World} (R:Option (Nat × Nat)→World→Prop) (hR:∀ r W W',w.heap.size < W.heap.size→Fp w.heap.size W W'→R r W→R r W')
  (hg:Calls Tryz.prog g cs (w.alloc (.cells #[.int .i64 0,.int .i64 0] 26)) fun e w'=>Holds w' w.heap.size 26 [.int .i64 0,.int .i64 0]∧((∃ v,e=.returned v∧R none w')∨∃ c a,e=.panicked (badChain c a)∧R (some (c,a)) w')):
  Calls Tryz.prog 15 #[.func (.func g) #[] cs] w fun e w'=>∃ r,e=.returned (told r)∧R r w':=by
 have hmf:∀ (fn:Fn) (first cap:Array Value) (w:World),(Instr.makeFunc fn first cap).run Tryz.prog w=.ok (.func fn first cap) w:=fun _ _ _ _=>rfl
 have HG:=Lib.hid hg
 have HR:=Lib.hid hR
 clear hg hR
 go_enter_defers Tryz.func15,Tryz.ntmps15
 go_wp2_with (fail)
 refine HG.out.mono ?_
 rintro e w1 ⟨hH,h⟩
 rcases h with ⟨v,rfl,h⟩ | ⟨c,a,rfl,h⟩
 ·have c0:w1.cell? ⟨w.heap.size,0,none⟩=some (.int .i64 0):=hH.cell 0
  have c1:w1.cell? ⟨w.heap.size,1,none⟩=some (.int .i64 0):=hH.cell 1
  have f0:=hH.free 0
  have f1:=hH.free 1
  have HH:Hid (Holds ((w1.setCell ⟨w.heap.size,0,none⟩ (.int .i64 0)).setCell ⟨w.heap.size,1,none⟩ (.int .i64 0)) w.heap.size 26 [.int .i64 0,.int .i64 0]):=(hH.put 0 (.int .i64 0)).put 1 (.int .i64 0)
  have HE:Hid (R none ((w1.setCell ⟨w.heap.size,0,none⟩ (.int .i64 0)).setCell ⟨w.heap.size,1,none⟩ (.int .i64 0))):=HR.out _ _ _ hH.lt (((Fp.refl _ w1).set 0 _).set 1 _) h
  clear h hH
  go_wp2
  refine leaves_cons (f:=46) (args:=#[.pointer (some ⟨w.heap.size,0,none⟩)]) (by simp) (by simp [go_sem]) ?_
  refine (cau1_idle w.heap.size _).mono ?_
  rintro e u' w'' ⟨rfl,rfl,hw''⟩
  rw [hw'']
  have d0:=HH.out.cell 0
  have d1:=HH.out.cell 1
  simp only [List.getElem?_cons_zero,List.getElem?_cons_succ] at d0 d1
  refine ⟨mish 0 0,?_,none,rfl,HE.out⟩
  simp [results,Tryz.results15,go_sem,d0,d1,mish]
 ·refine leaves_cons (f:=46) (args:=#[.pointer (some ⟨w.heap.size,0,none⟩)]) (by simp) (by simp [go_sem]) ?_
  refine (cau1_panicking w.heap.size c a _ hH).mono ?_
  rintro e u' w'' ⟨rfl,rfl,hG,hb⟩
  have d0:=hG.cell 0
  have d1:=hG.cell 1
  simp only [List.getElem?_cons_zero,List.getElem?_cons_succ] at d0 d1
  simp only [settle,List.dropWhile,Leaves]
  refine ⟨mish c a,?_,some (c,a),rfl,HR.out _ _ _ hH.lt hb h⟩
  simp [results,Tryz.results15,go_sem,d0,d1,mish]
end Go.Proofs.YtpoghableadkcaaGreatDoor
end
section
/- Bounds of a text's words. -/
namespace Go.Proofs.YtpoghableadkcaaGreatDoor
set_option linter.unusedVariables false

theorem sign_kind {i:Nat} {l:Bs} {t:Tk} {n:Nat} (h:sign i l=.ok (t,n)):t.kind ≤ 4∧t.num ≤ 2147483647:=by
 unfold sign at h
 split at h
 ·cases h
 ·split at h
  ·injection h with h;injection h with h _;subst h;exact ⟨Nat.le_refl _,Nat.zero_le _⟩
  ·cases h
 ·split at h
  ·injection h with h;injection h with h _;subst h;exact ⟨Nat.le_refl _,Nat.zero_le _⟩
  ·split at h
   ·injection h with h;injection h with h _;subst h;exact ⟨Nat.le_refl _,Nat.zero_le _⟩
   ·cases h
theorem word_bnd {i:Nat} {l:Bs} {t:Tk} {n:Nat} (h:word i l=.ok (t,n)):t.kind ≤ 4∧t.num ≤ 2147483647:=by
 unfold word at h
 split at h
 ·cases h
 ·split at h
  ·simp only at h
   split at h
   ·cases h
   ·injection h with h;injection h with h _;subst h
    refine ⟨?_,Nat.zero_le _⟩
    show (if _ then 4 else 1) ≤ 4
    split <;> omega
  ·split at h
   ·simp only at h
    split at h
    ·cases h
    ·rename_i hn
     injection h with h;injection h with h _;subst h
     simp only [Bool.or_eq_true,decide_eq_true_eq,not_or,Nat.not_lt] at hn
     exact ⟨by show 2 ≤ 4;omega,hn.1.2⟩
   ·split at h
    ·split at h
     ·cases h
     ·injection h with h;injection h with h _;subst h;exact ⟨by show 3 ≤ 4;omega,Nat.zero_le _⟩
    ·exact sign_kind h
theorem tk_bnd:∀ (n i:Nat) (l:Bs) (ts:List Tk),l.length < n→tk i l=.ok ts→ts.length ≤ l.length∧∀ t ∈ ts,t.at_ < i + l.length∧t.kind ≤ 4∧t.num ≤ 2147483647
 | 0,_,_,_,h,_=>by omega
 | n + 1,i,l,ts,hn,h=>by
  rw [tk_eq] at h
  cases hbl:blank false i l with
  | bad c a=>rw [hbl] at h;cases h
  | ok k=>
   have h1:=blank_ge _ _ _ _ hbl
   rw [hbl] at h
   simp only at h
   cases hd:l.drop (k - i) with
   | nil=>rw [hd] at h;injection h with h;subst h;exact ⟨Nat.zero_le _,fun t ht=>by cases ht⟩
   | cons c r=>
    rw [hd] at h
    simp only at h
    have h3:(c :: r).length=l.length - (k - i):=by rw [← hd,List.length_drop]
    have h7:0 < (c :: r).length:=by simp
    cases hw:word k (c :: r) with
    | bad x y=>rw [hw] at h;cases h
    | ok q=>
     obtain ⟨t,m⟩:=q
     have h2:=word_ge hw
     have h4:=word_at hw
     have h5:=word_bnd hw
     rw [hw] at h
     simp only at h
     cases ht:tk m ((c :: r).drop (m - k)) with
     | bad x y=>rw [ht] at h;cases h
     | ok ts'=>
      rw [ht] at h
      injection h with h
      subst h
      obtain ⟨h8,h9⟩:=tk_bnd n m _ ts' (by rw [List.length_drop];omega) ht
      rw [List.length_drop] at h8
      refine ⟨by simp;omega,fun u hu=>?_⟩
      rcases List.mem_cons.1 hu with rfl | hu
      ·exact ⟨by omega,h5⟩
      ·have h10:=h9 u hu
       rw [List.length_drop] at h10
       exact ⟨by omega,h10.2⟩
end Go.Proofs.YtpoghableadkcaaGreatDoor
end
section
/- What Expr and Parse tell: plain. -/
namespace Go.Proofs.YtpoghableadkcaaGreatDoor
set_option linter.unusedVariables false

def envOf (s:ByteArray) (L:List Tk):Env:=⟨s.data.toList,L⟩
def exprRes (f:Nat) (s:ByteArray):Res Ast:=
 match tokensOf s with
 | .bad c a=>.bad c a
 | .ok L=>match expr (envOf s L) f 0 0 with
  | .out=>.bad 0 0
  | .bad c a=>.bad c a
  | .ok x j=>if j < L.length then .bad 30 (placeAt (envOf s L) j) else if 60 < dA x then .bad 3 0 else .ok x
def parseRes (f g:Nat) (s:ByteArray):Res (List Unt):=
 match tokensOf s with
 | .bad c a=>.bad c a
 | .ok L=>match units (envOf s L) f g 0 with
  | .out=>.bad 0 0
  | .bad c a=>.bad c a
  | .ok l j=>if 60 < fo dU l then .bad 3 0 else .ok l
/-- There is fuel enough. -/
def exprFu (f:Nat) (s:ByteArray):Prop:=∀ L,tokensOf s=.ok L→expr (envOf s L) f 0 0 ≠ .out
def parseFu (f g:Nat) (s:ByteArray):Prop:=∀ L,tokensOf s=.ok L→units (envOf s L) f g 0 ≠ .out

mutual
def eqA:Ast→Ast→Bool
 | .mk k n a l ns is hs ks gs,.mk k' n' a' l' ns' is' hs' ks' gs'=>k == k' && decide (n=n') && a == a' && l == l' && ns == ns' && eqAs is is' && hs == hs' && eqAs ks ks' && eqGs gs gs'
def eqAs:List Ast→List Ast→Bool
 | [],[]=>true
 | a :: l,b :: m=>eqA a b && eqAs l m
 | _,_=>false
def eqG:Arg→Arg→Bool
 | .mk m a e,.mk m' a' e'=>m == m' && a == a' && eqA e e'
def eqGs:List Arg→List Arg→Bool
 | [],[]=>true
 | a :: l,b :: m=>eqG a b && eqGs l m
 | _,_=>false
end
mutual
theorem eqA_eq:∀ a b:Ast,eqA a b=true→a=b
 | .mk k n a l ns is hs ks gs,.mk k' n' a' l' ns' is' hs' ks' gs',h=>by
  simp only [eqA,Bool.and_eq_true,beq_iff_eq,decide_eq_true_eq] at h
  obtain ⟨⟨⟨⟨⟨⟨⟨⟨rfl,rfl⟩,rfl⟩,rfl⟩,rfl⟩,h1⟩,rfl⟩,h2⟩,h3⟩:=h
  rw [eqAs_eq is is' h1,eqAs_eq ks ks' h2,eqGs_eq gs gs' h3]
theorem eqAs_eq:∀ l m:List Ast,eqAs l m=true→l=m
 | [],[],h=>rfl
 | a :: l,b :: m,h=>by
  simp only [eqAs,Bool.and_eq_true] at h
  rw [eqA_eq a b h.1,eqAs_eq l m h.2]
 | [],b :: m,h=>by simp [eqAs] at h
 | a :: l,[],h=>by simp [eqAs] at h
theorem eqG_eq:∀ a b:Arg,eqG a b=true→a=b
 | .mk m a e,.mk m' a' e',h=>by
  simp only [eqG,Bool.and_eq_true,beq_iff_eq] at h
  obtain ⟨⟨rfl,rfl⟩,h1⟩:=h
  rw [eqA_eq e e' h1]
theorem eqGs_eq:∀ l m:List Arg,eqGs l m=true→l=m
 | [],[],h=>rfl
 | a :: l,b :: m,h=>by
  simp only [eqGs,Bool.and_eq_true] at h
  rw [eqG_eq a b h.1,eqGs_eq l m h.2]
 | [],b :: m,h=>by simp [eqGs] at h
 | a :: l,[],h=>by simp [eqGs] at h
end
end Go.Proofs.YtpoghableadkcaaGreatDoor
end
section
/- Some texts, read: by evaluation. -/
namespace Go.Proofs.YtpoghableadkcaaGreatDoor
set_option linter.unusedVariables false

def isAwake:Res (List Unt)→Bool
 | .ok [_,u]=>u.kind == 5 && (match u.body with | [.mk _ _ _ _ _ _ _ _ _ _ _ _ _ op _]=>op.length == 2 | _=>false)
 | _=>false
set_option maxRecDepth 100000 in
theorem awake1:isAwake (parseRes 14 6 ⟨#[98,121,116,101,32,120,59,32,105,110,105,116,32,123,32,105,102,32,58,58,32,120,32,62,32,48,32,45,62,32,120,45,45,59,32,58,58,32,101,108,115,101,32,102,105,32,125]⟩)=true:=by decide +kernel
set_option maxRecDepth 100000 in
theorem awake2:(match parseRes 14 6 ⟨#[105,110,105,116,32,123,32,120,32,61,32,125]⟩ with | .bad c a=>c == 30 && a == 11 | _=>false)=true:=by decide +kernel
set_option maxRecDepth 100000 in
theorem awake3:(match exprRes 14 ⟨#[49,32,43,32,50,32,42,32,51]⟩ with | .ok e=>(match e with | .mk _ _ n _ _ _ _ _ _=>n == [43]) | _=>false)=true:=by decide +kernel

def lvOps:List Bs:=[[124,124],[38,38],[124],[94],[38],[61,61],[33,61],[60],[60,61],[62],[62,61],[60,60],[62,62],[43],[45],[42],[47],[37]]
def lvL:List Nat:=[1,2,3,4,5,6,6,7,7,7,7,8,8,9,9,10,10,10]
def op_ (i:Nat):Bs:=lvOps.getD i []
def lv1 (i k:Nat):ByteArray:=⟨([120,32] ++ op_ i ++ [32,121,32] ++ op_ k ++ [32,122]).toArray⟩
def lv2 (i k:Nat):ByteArray:=⟨([40,120,32] ++ op_ i ++ [32,121,41,32] ++ op_ k ++ [32,122]).toArray⟩
def lv3 (i k:Nat):ByteArray:=⟨([120,32] ++ op_ i ++ [32,40,121,32] ++ op_ k ++ [32,122,41]).toArray⟩
def lvOk (i k:Nat):Bool:=match exprRes 18 (lv1 i k),exprRes 18 (lv2 i k),exprRes 18 (lv3 i k) with
 | .ok e,.ok l,.ok r=>if lvL.getD i 0 < lvL.getD k 0 then eqA e r else eqA e l
 | _,_,_=>false
set_option maxRecDepth 100000 in
theorem lv_all:((List.range 18).all fun i=>(List.range 18).all fun k=>lvOk i k)=true:=by decide +kernel
theorem lv_at {i k:Nat} (hi:i < 18) (hk:k < 18):lvOk i k=true:=
 List.all_eq_true.1 (List.all_eq_true.1 lv_all i (List.mem_range.2 hi)) k (List.mem_range.2 hk)
theorem exprFu_of {f:Nat} {s:ByteArray} (h:exprRes f s ≠ .bad 0 0):exprFu f s:=fun L hL he=>h (by unfold exprRes;rw [hL];simp only;rw [he])
theorem parseFu_of {f g:Nat} {s:ByteArray} (h:parseRes f g s ≠ .bad 0 0):parseFu f g s:=fun L hL he=>h (by unfold parseRes;rw [hL];simp only;rw [he])
end Go.Proofs.YtpoghableadkcaaGreatDoor
end
section
/- Parentheses about an expression's text leave no trace: plain. -/
namespace Go.Proofs.YtpoghableadkcaaGreatDoor
set_option linter.unusedVariables false

theorem twos_br {c:UInt8} (hc:c=40∨c=41∨c=59) (d:UInt8):twos.contains [c,d]=false:=by
 cases h:twos.contains [c,d] with
 | false=>rfl
 | true=>
  rw [List.contains_iff_mem] at h
  rcases hc with rfl | rfl | rfl <;> simp [twos] at h
theorem tk_br {c:UInt8} (hc:c=40∨c=41∨c=59) (i:Nat) (l:Bs):tk i (c :: l)=prep [⟨4,[c],0,i⟩] (tk (i + 1) l):=by
 have hb:blank false i (c :: l)=.ok i:=by rcases hc with rfl | rfl | rfl <;> cases l <;> simp [blank,isBl]
 have hw:word i (c :: l)=.ok (⟨4,[c],0,i⟩,i + 1):=by
  have h1:ltr c.toNat=false:=by rcases hc with rfl | rfl | rfl <;> decide
  have h2:isDig c=false:=by rcases hc with rfl | rfl | rfl <;> decide
  have h3:(c == 34)=false:=by rcases hc with rfl | rfl | rfl <;> decide
  have h4:isOne c.toNat=true:=by rcases hc with rfl | rfl | rfl <;> decide
  unfold word
  simp only [h1,h2,h3,Bool.false_eq_true,if_false]
  cases l with
  | nil=>rw [sign,if_pos h4]
  | cons d r=>rw [sign,twos_br hc,if_neg (by decide),if_pos h4]
 rw [tk_eq,hb]
 simp only [Nat.sub_self,List.drop_zero,hw,show i + 1 - i=1 by omega,List.drop_succ_cons]
 cases tk (i + 1) l <;> rfl
def parTxt (s:ByteArray):ByteArray:=⟨(40 :: 40 :: (s.data.toList ++ [10,41,41])).toArray⟩
theorem tk_par {s:Bs} {ts:List Tk} (h:tk 0 s=.ok ts):tk 0 (40 :: 40 :: (s ++ [10,41,41]))=.ok (⟨4,[40],0,0⟩ :: ⟨4,[40],0,1⟩ :: (ts.map (shT 2) ++ [⟨4,[41],0,s.length + 3⟩,⟨4,[41],0,s.length + 4⟩])):=by
 have h2:tk 2 s=.ok (ts.map (shT 2)):=by
  have:=tk_shift 2 0 s
  rw [Nat.add_zero,h] at this
  exact this
 rw [tk_br (.inl rfl),tk_br (.inl rfl)]
 have h3:=tk_ext (b:=10) (by decide) [41,41] h2
 rw [show (0:Nat) + 1 + 1=2 by rfl,show s ++ [10,41,41]=s ++ 10 :: [41,41] by rfl,h3,show 2 + s.length + 1=s.length + 3 by omega,tk_br (.inr (.inl rfl)),tk_br (.inr (.inl rfl))]
 have h4:∀ i,tk i []=.ok []:=fun i=>by rw [tk_eq];simp [blank]
 rw [h4]
 simp only [prep,List.append_nil,List.nil_append,List.cons_append]
theorem sim_par {s:ByteArray} {ts:List Tk} (h:tokensOf s=.ok ts) (h2:s.size ≤ 65531):∃ L',tokensOf (parTxt s)=.ok L'∧L'.length=ts.length + 4∧Sim (envOf s ts) (envOf (parTxt s) L') 2 [41] ∧
  sees (envOf (parTxt s) L') 0 [[40]]=true∧sees (envOf (parTxt s) L') 1 [[40]]=true∧sees (envOf (parTxt s) L') (ts.length + 2) [[41]]=true∧sees (envOf (parTxt s) L') (ts.length + 3) [[41]]=true:=by
 have h0:tk 0 s.data.toList=.ok ts:=by
  unfold tokensOf at h
  rw [if_neg (by omega)] at h
  simpa [rest] using h
 have h1:=tk_par h0
 refine ⟨(⟨4,[40],0,0⟩ :: ⟨4,[40],0,1⟩ :: (ts.map (shT 2) ++ [⟨4,[41],0,s.data.toList.length + 3⟩,⟨4,[41],0,s.data.toList.length + 4⟩])),?_,?_,?_,?_,?_,?_,?_⟩
 ·unfold tokensOf
  have hs:(parTxt s).size=s.size + 5:=by
   show (List.toArray _).size=_
   rw [List.size_toArray]
   simp only [List.length_cons,List.length_append,List.length_nil,Array.length_toList]
   rfl
  rw [if_neg (by omega)]
  simpa [rest,parTxt] using h1
 ·simp
 ·have hg:∀ i (hi:i < ts.length),(⟨4,[40],0,0⟩ :: ⟨4,[40],0,1⟩ :: (ts.map (shT 2) ++ [⟨4,[41],0,s.data.toList.length + 3⟩,⟨4,[41],0,s.data.toList.length + 4⟩]):List Tk)[i + 2]?=some (shT 2 ts[i]):=fun i hi=>by
   show ((ts.map (shT 2) ++ _:List Tk))[i]?=_
   rw [List.getElem?_append_left (by simpa using hi),List.getElem?_map,List.getElem?_eq_getElem hi]
   rfl
  refine ⟨fun i hi=>?_,.inr ?_,by simp [envOf]⟩
  ·have hi':i < ts.length:=hi
   simp only [kindAt,textAt,numAt,envOf]
   rw [hg i hi',List.getElem?_eq_getElem hi']
   exact ⟨rfl,rfl,rfl⟩
  ·simp only [kindAt,textAt,envOf]
   simp
 ·simp [sees,kindAt,textAt,envOf]
 ·simp [sees,kindAt,textAt,envOf]
 ·simp [sees,kindAt,textAt,envOf]
 ·simp [sees,kindAt,textAt,envOf]
theorem lev_none {E:Env} {i:Nat} (h:sees E i [[41]]=true∨E.L.length ≤ i):levAt E i=0:=by
 unfold levAt
 have:levelsL.findIdx (fun l=>sees E i l)=10:=by
  rcases h with h | h
  ·unfold sees at h
   simp only [Bool.and_eq_true,List.contains_cons,List.contains_nil,Bool.or_false,beq_iff_eq] at h
   have:∀ l,sees E i l=l.contains [41]:=fun l=>by unfold sees;rw [h.1,h.2];simp
   simp only [this]
   decide
  ·have:∀ l,sees E i l=false:=fun l=>sees_end h
   simp only [this]
   decide
 rw [this]
 decide
theorem go_none {E:Env} {f lvl i:Nat} {a:Ast} (h:sees E i [[41]]=true∨E.L.length ≤ i):exprGo E (f + 1) lvl a i=.ok a i:=by
 rw [exprGo,lev_none h,if_neg (by omega)]
theorem br_step {E:Env} {f i j:Nat} {e:Ast} (h1:sees E i [[40]]=true) (h2:expr E f 0 (i + 1)=.ok e j) (h3:sees E j [[41]]=true) (h4:sees E (j + 1) [[41]]=true∨E.L.length ≤ j + 1):expr E (f + 3) 0 i=.ok e (j + 1):=by
 have hk:kindAt E i=4∧textAt E i=[40]:=by
  unfold sees at h1
  simpa using h1
 have hk3:kindAt E j=4∧textAt E j=[41]:=by
  unfold sees at h3
  simpa using h3
 have hu:unary E (f + 2) i=.ok e (j + 1):=by
  rw [unary,if_neg (by unfold sees;rw [hk.1,hk.2];decide),if_pos h1,bracket,h2]
  simp only [R.bd]
  rw [if_neg (by unfold sees;rw [hk3.1,hk3.2];decide)]
  unfold need
  rw [if_pos h3]
 rw [expr,hu]
 exact go_none h4
theorem parens {f:Nat} {s:ByteArray} {e:Ast} (h:exprRes f s=.ok e) (h2:s.size ≤ 65531):exprRes (f + 6) (parTxt s)=.ok e:=by
 unfold exprRes at h
 cases ht:tokensOf s with
 | bad c a=>rw [ht] at h;cases h
 | ok ts=>
  rw [ht] at h
  simp only at h
  cases hx:expr (envOf s ts) f 0 0 with
  | out=>rw [hx] at h;cases h
  | bad c a=>rw [hx] at h;cases h
  | ok x j=>
   rw [hx] at h
   simp only at h
   split at h
   ·cases h
   ·rename_i hj
    split at h
    ·cases h
    ·rename_i hd
     injection h with h
     subst h
     have hjl:j ≤ ts.length:=(topE (envOf s ts) f).expr _ _ _ _ hx
     obtain rfl:j=ts.length:=by omega
     obtain ⟨L',h3,h4,S,s0,s1,s2,s3⟩:=sim_par ht h2
     have h5:=(simE S ends_close f).expr 0 0 (Nat.zero_le _) _ _ hx
     rw [Nat.zero_add] at h5
     have h6:=br_step s1 h5 s2 (.inl s3)
     have h7:=br_step s0 h6 s3 (.inr (by show L'.length ≤ _;omega))
     unfold exprRes
     rw [h3]
     simp only
     rw [h7]
     simp only
     rw [if_neg (by omega),if_neg hd]
end Go.Proofs.YtpoghableadkcaaGreatDoor
end
