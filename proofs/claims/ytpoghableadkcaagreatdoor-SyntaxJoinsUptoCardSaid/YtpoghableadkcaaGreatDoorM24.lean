/- Bd, Wpr, Laid, joined. -/
import Derived.Test.YtpoghableadkcaaGreatDoorM20
import Derived.Test.YtpoghableadkcaaGreatDoorM23
import Derived.Test.YtpoghableadkcaaGreatDoorM21
import Derived.Test.YtpoghableadkcaaGreatDoorCards
import Derived.Test.YtpoghableadkcaaGreatDoorTie
import Derived.WalkKit
import Derived.ProofKit
import Derived.OpenShut
import Derived.ShutString
import Derived.LaidMore
import Derived.Stop.Joined
import Derived.Deep.DeepHandedRow
import Derived.Deep.DeepWitnessRowRef
import Derived.Lib.LaidTab
section
/- What is bad has a code: plain. -/
namespace Go.Proofs.YtpoghableadkcaaGreatDoor
set_option linter.unusedVariables false

def Bd {A:Type} (r:R A):Prop:=∀ c a,r=.bad c a→0 < c
section
variable {A B:Type} {E:Env} {r:R A}
theorem Bd.out:Bd (.out:R A):=fun c a h=>by cases h
theorem Bd.ok {a:A} {j:Nat}:Bd (.ok a j):=fun c x h=>by cases h
theorem Bd.wrong {i:Nat}:Bd (Go.Proofs.YtpoghableadkcaaGreatDoor.wrong E i:R A):=by
 intro c a h
 unfold Go.Proofs.YtpoghableadkcaaGreatDoor.wrong at h
 cases hl:E.L[i]? with
 | some t=>rw [hl] at h;injection h with h _;omega
 | none=>rw [hl] at h;injection h with h _;omega
theorem Bd.ite {c:Prop} [Decidable c] {x y:R A} (hx:Bd x) (hy:Bd y):Bd (if c then x else y):=by
 split
 ·exact hx
 ·exact hy
theorem Bd.bd {f:A→Nat→R B} (h0:Bd r) (h:∀ a j,Bd (f a j)):Bd (r.bd f):=by
 cases r with
 | out=>exact Bd.out
 | bad c a=>exact fun c' a' h=>h0 _ _ (by injection h with h1 h2;rw [h1,h2])
 | ok a j=>exact h a j
theorem Bd.need {s:Bs} {i:Nat}:Bd (Go.Proofs.YtpoghableadkcaaGreatDoor.need E s i):=Bd.ite Bd.ok Bd.wrong
theorem Bd.pid {i:Nat}:Bd (Go.Proofs.YtpoghableadkcaaGreatDoor.pid E i):=Bd.ite Bd.ok Bd.wrong
theorem Bd.commas {one:Nat→R A} (h:∀ i,Bd (one i)):∀ g i,Bd (commas E one g i)
 | 0,i=>Bd.out
 | g + 1,i=>by rw [Go.Proofs.YtpoghableadkcaaGreatDoor.commas];exact Bd.ite (Bd.bd (h _) fun a j=>Bd.bd (Bd.commas h g j) fun l k=>Bd.ok) Bd.ok
theorem Bd.many {one:Nat→R A} (h:∀ i,Bd (one i)) {g i:Nat}:Bd (many E one g i):=Bd.bd (h _) fun a j=>Bd.bd (Bd.commas h g j) fun l k=>Bd.ok
theorem Bd.within {one:Nat→R A} (h:∀ i,Bd (one i)) {g i:Nat}:Bd (within E one g i):=Bd.bd Bd.need fun _ j=>Bd.ite Bd.ok (Bd.bd (Bd.many h) fun l k=>Bd.bd Bd.need fun _ m=>Bd.ok)
theorem Bd.message {one:Nat→R A} (h:∀ i,Bd (one i)) {g i:Nat}:Bd (message E one g i):=
 Bd.bd (h _) fun a j=>Bd.ite (Bd.bd (Bd.many h) fun l k=>Bd.bd Bd.need fun _ m=>Bd.ok) (Bd.bd (Bd.commas h g j) fun l k=>Bd.ok)
end
structure BdE (E:Env) (f:Nat):Prop where
 expr:∀ l i,Bd (expr E f l i)
 go:∀ l a i,Bd (exprGo E f l a i)
 unary:∀ i,Bd (unary E f i)
 bracket:∀ i,Bd (bracket E f i)
 choice:∀ a i,Bd (choice E f a i)
 primary:∀ i,Bd (primary E f i)
 named:∀ i,Bd (named E f i)
 ref:∀ i,Bd (ref E f i)
 arg:∀ i,Bd (arg E f i)
theorem bdE (E:Env):∀ f,BdE E f
 | 0=>by constructor <;> intros <;> intro c a h <;> simp [expr,exprGo,unary,bracket,choice,primary,named,ref,arg] at h
 | f + 1=>by
  have ih:=bdE E f
  constructor <;> intros
  all_goals first | rw [expr] | rw [exprGo] | rw [unary] | rw [bracket] | rw [choice] | rw [primary] | rw [named] | rw [ref] | rw [arg]
  all_goals repeat' first | exact Bd.out | exact Bd.ok | exact Bd.wrong | exact Bd.need | exact Bd.pid | (with_reducible refine Bd.within fun _=>?_) | (with_reducible refine Bd.message fun _=>?_) | (with_reducible refine Bd.many fun _=>?_) | (with_reducible refine Bd.ite ?_ ?_) | (with_reducible refine Bd.bd ?_ fun _ _=>?_)
  all_goals first | exact ih.expr _ _ | exact ih.go _ _ _ | exact ih.unary _ | exact ih.bracket _ | exact ih.choice _ _ | exact ih.primary _ | exact ih.named _ | exact ih.ref _ | exact ih.arg _
theorem exprRes_bad {f:Nat} {s:ByteArray} {c a:Nat} (hf:exprFu f s) (ht:∀ c a,tokensOf s=.bad c a→0 < c) (h:exprRes f s=.bad c a):0 < c:=by
 unfold exprRes at h
 cases htk:tokensOf s with
 | bad c' a'=>
  rw [htk] at h
  simp only at h
  injection h with h1 _
  rw [← h1];exact ht _ _ htk
 | ok L=>
  rw [htk] at h
  simp only at h
  have hfx:=hf L htk
  cases hx:expr (envOf s L) f 0 0 with
  | out=>exact absurd hx hfx
  | bad c' a'=>
   rw [hx] at h
   simp only at h
   injection h with h1 _
   rw [← h1];exact (bdE _ f).expr _ _ _ _ hx
  | ok x j=>
   rw [hx] at h
   simp only at h
   split at h
   ·injection h with h1 _;omega
   ·split at h
    ·injection h with h1 _;omega
    ·cases h
end Go.Proofs.YtpoghableadkcaaGreatDoor
end
section
/- The walk of SyntaxParens. -/
namespace Go.Proofs.YtpoghableadkcaaGreatDoor
open Go.RowKit
set_option linter.unusedVariables false
set_option linter.unusedSimpArgs false

theorem exprFu_all:∃ f,∀ s,exprFu f s:=by
 obtain ⟨M,hM⟩:∃ M,65536=M:=⟨_,rfl⟩
 refine ⟨8 * M + 6,fun s L hL=>(fuE _ _).expr 0 0 (Nat.zero_le _) ?_⟩
 have:=(tokens_ok hL).2.1
 show 8 * (L.length - 0) + 5 < 8 * M + 6
 omega
theorem partxt_eq (s:ByteArray):(⟨#[40,40]⟩ ++ s ++ ⟨#[10,41,41]⟩:ByteArray)=parTxt s:=by
 apply ByteArray.ext
 apply Array.ext'
 simp [parTxt,ByteArray.data_append]
/-- An answer of Expr,told flat. -/
theorem exprTop2 {f:Nat} {s:ByteArray} {w:World} (hw:Wd w) (hf:exprFu f s) (ht:∀ c a,tokensOf s=.bad c a→0 < c):Calls Tryz.prog 11 #[.string s] w fun e w'=>
  Below w.heap.size w w'∧∃ (k n:Int) (nm lb:ByteArray) (a1:Option Addr) (n1 c1:Nat) (a2:Option Addr) (n2 c2:Nat) (a3:Option Addr) (n3 c3:Nat) (a4:Option Addr) (n4 c4:Nat) (a5:Option Addr) (n5 c5:Nat) (c a:Nat),
   e=.returned (.tuple #[.agg #[.int .i64 k,.int .i64 n,.string nm,.string lb,.slice a1 n1 c1,.slice a2 n2 c2,.slice a3 n3 c3,.slice a4 n4 c4,.slice a5 n5 c5],.agg #[.int .i64 c,.int .i64 a]]) ∧
   Hid ((0 < c∧exprRes f s=.bad c a)∨(c=0∧a=0∧∃ x,exprRes f s=.ok x∧AstG (From w.heap.size) w' x [.int .i64 k,.int .i64 n,.string nm,.string lb,.slice a1 n1 c1,.slice a2 n2 c2,.slice a3 n3 c3,.slice a4 n4 c4,.slice a5 n5 c5])):=by
 refine (exprTop hw hf).mono fun e w' h=>?_
 obtain ⟨hb,h⟩:=h
 refine ⟨hb,?_⟩
 cases hx:exprRes f s with
 | bad c a=>
  rw [hx] at h
  obtain rfl:=h
  exact ⟨_,_,_,_,_,_,_,_,_,_,_,_,_,_,_,_,_,_,_,c,a,rfl,.inl ⟨exprRes_bad hf ht hx,rfl⟩⟩
 | ok x=>
  rw [hx] at h
  obtain ⟨c,rfl,vn,vi,vh,vk,va,rfl,hv⟩:=h
  obtain ⟨xa1,xn1,xc1,xa2,xn2,xc2,xa3,xn3,xc3,xa4,xn4,xc4,xa5,xn5,xc5,rfl,rfl,rfl,rfl,rfl⟩:=hv.forms
  exact ⟨_,_,_,_,_,_,_,_,_,_,_,_,_,_,_,_,_,_,_,0,0,rfl,.inr ⟨rfl,rfl,x,rfl,_,_,_,_,_,rfl,hv⟩⟩
set_option maxHeartbeats 1600000 in
set_option maxRecDepth 1000000 in
theorem lawParens (s:ByteArray) {w:World} (hw:Wd w):Calls Tryz.prog 4 #[.string s] w fun e w'=>e=.returned (.bool true)∧Below w.heap.size w w':=by
 obtain ⟨f,hf⟩:=exprFu_all
 have HW:=Lib.hid hw
 have HC:=Lib.hid (awakeFn hw)
 have HF:=Lib.hid hf
 clear hw hf
 go_enter Tryz.func4,Tryz.ntmps4
 go_wp2_with (fail)
 refine HC.out.mono ?_
 rintro e w1 ⟨rfl,hB1⟩
 have HW1:=Lib.hid (HW.out.below hB1)
 have HB1:=Lib.hid hB1
 have HC:=Lib.hid (refTokens s w1)
 unfold TokensPost at HC
 clear hB1
 go_wp2_with (fail)
 refine HC.out.mono ?_
 rintro e w2 ⟨hB2,h⟩
 obtain ⟨ta,tn,tc,c,a,rfl,ht⟩:∃ (ta:Option Addr) (tn tc c a:Nat),e=.returned (.tuple #[.slice ta tn tc,.agg #[.int .i64 c,.int .i64 a]])∧Hid (∀ c a,tokensOf s=.bad c a→0 < c):=by
  cases htk:tokensOf s with
  | ok ts=>
   rw [htk] at h
   obtain ⟨v,rfl,ho⟩:=h
   obtain ⟨va,vc,rfl,_⟩:=owns_form ho
   exact ⟨_,_,_,0,0,rfl,fun c a h=>by cases h⟩
  | bad c a=>
   rw [htk] at h
   obtain ⟨hc,rfl⟩:=h
   exact ⟨_,_,_,c,a,rfl,fun c' a' h=>by injection h with h1 _;omega⟩
 have hB3:Below w.heap.size w (w2.alloc (.cells #[.int .i64 (c:Int),.int .i64 (a:Int)] 26)):=(HB1.out.trans (hB2.mono HB1.out.size)).alloc (HB1.out.trans (hB2.mono HB1.out.size)).size _
 have HB3:=Lib.hid hB3
 have HT:=Lib.hid ht.out
 have HC2:=Lib.hid (exprTop2 (HW.out.below hB3) (HF.out s) ht.out)
 clear hB2 hB3 h ht HC
 go_wp2_with (fail)
 refine HC2.out.mono ?_
 rintro e w3 ⟨hB3,k,n,nm,lb,a1,n1,c1,a2,n2,c2,a3,n3,c3,a4,n4,c4,a5,n5,c5,c9,a9,rfl,HR⟩
 have q1:w3.cell? ⟨w2.heap.size,0,none⟩=some (.int .i64 (c:Int)):=((Holds.new w2 26 #[.int .i64 (c:Int),.int .i64 (a:Int)]).belowAll hB3).cell 0
 go_upto_region 6 with (fail)
 obtain ⟨w4,hw4⟩:∃ W,W=(w3.alloc (.cells #[.int .i64 k,.int .i64 n,.string nm,.string lb,.slice a1 n1 c1,.slice a2 n2 c2,.slice a3 n3 c3,.slice a4 n4 c4,.slice a5 n5 c5] 41)).alloc (.cells #[.int .i64 (c9:Int),.int .i64 (a9:Int)] 26):=⟨_,rfl⟩
 have hb4:Below w3.heap.size w3 w4:=by rw [hw4];exact ((Below.refl w3.heap.size w3).alloc (Nat.le_refl _) _).alloc (by simp) _
 have p1:=hb4.cell (World.block_lt_of_cell? w3 _ q1)
 rw [q1] at p1
 have p2:w4.cell? ⟨w3.heap.size + 1,0,none⟩=some (.int .i64 (c9:Int)):=by rw [hw4];simp
 have hE4:Holds w4 w3.heap.size 41 [.int .i64 k,.int .i64 n,.string nm,.string lb,.slice a1 n1 c1,.slice a2 n2 c2,.slice a3 n3 c3,.slice a4 n4 c4,.slice a5 n5 c5]:=by rw [hw4];exact (Holds.new w3 41 _).alloc _
 have HE4:=Lib.hid hE4
 have hb04:Below w.heap.size w w4:=(HB3.out.trans (hB3.mono HB3.out.size)).trans (hb4.mono (HB3.out.trans (hB3.mono HB3.out.size)).size)
 have HB4:=Lib.hid hb04
 have HR4:Hid ((0 < c9∧exprRes f s=.bad c9 a9)∨(c9=0∧a9=0∧∃ x,exprRes f s=.ok x∧AstG (fun _=>True) w4 x [.int .i64 k,.int .i64 n,.string nm,.string lb,.slice a1 n1 c1,.slice a2 n2 c2,.slice a3 n3 c3,.slice a4 n4 c4,.slice a5 n5 c5])):=by
  show _
  rcases HR.out with h | ⟨h1,h2,x,h3,h4⟩
  ·exact .inl h
  ·refine .inr ⟨h1,h2,x,h3,?_⟩
   obtain ⟨vn,vi,vh,vk,va,h5,h6⟩:=h4
   exact ⟨vn,vi,vh,vk,va,h5,(h6.mono (fun _ _ _=>trivial)).up (Keep.below hb4)⟩
 rw [← hw4]
 clear hw4 q1 hb4 hE4 hb04 HR HC2 hB3
 by_cases hc:c=0
 ·by_cases ht0:tn=0
  ·have e1:((c:Int) == 0)=true:=by simp;omega
   have e2:((tn:Int) == 0)=true:=by simp;omega
   go_wp2
   go_ret
   exact ⟨rfl,HB4.out⟩
  ·have e1:((c:Int) == 0)=true:=by simp;omega
   have e2:((tn:Int) == 0)=false:=by simp;omega
   by_cases h9:c9=0
   ·have e3:((c9:Int) == 0)=true:=by simp;omega
    by_cases hl:65531 < s.size
    ·have e4:decide ((65531:Int) < (s.size:Int))=true:=decide_eq_true (by omega)
     go_wp2
     go_ret
     exact ⟨rfl,HB4.out⟩
    ·have e4:decide ((65531:Int) < (s.size:Int))=false:=decide_eq_false (by omega)
     obtain ⟨x,hx,hv⟩:∃ x,exprRes f s=.ok x∧AstG (fun _=>True) w4 x [.int .i64 k,.int .i64 n,.string nm,.string lb,.slice a1 n1 c1,.slice a2 n2 c2,.slice a3 n3 c3,.slice a4 n4 c4,.slice a5 n5 c5]:=by
      rcases HR4.out with h | ⟨_,_,x,h3,h4⟩
      ·omega
      ·exact ⟨x,h3,h4⟩
     have hpar:=parens hx (by omega)
     have hC:=exprTop (f:=f + 6) (s:=parTxt s) (HW.out.below HB4.out) (exprFu_of (by rw [hpar];simp))
     unfold ExprPost at hC
     rw [hpar] at hC
     have HC:=Lib.hid hC
     have HV:=Lib.hid hv
     clear HR4 hx hpar hC hv
     go_wp2_with (fail)
     rw [partxt_eq]
     refine HC.out.mono ?_
     rintro e w5 ⟨hB5,cs,rfl,vn,vi,vh,vk,va,rfl,hv5⟩
     obtain ⟨b1,m1,d1,b2,m2,d2,b3,m3,d3,b4,m4,d4,b5,m5,d5,rfl,rfl,rfl,rfl,rfl⟩:=hv5.forms
     unfold Ast.cells mish
     clear HC
     go_upto_region 9 with (fail)
     obtain ⟨w6,hw6⟩:∃ W,W=(w5.alloc (.cells #[.int .i64 (x.kind:Int),.int .i64 x.n,.string ⟨x.name.toArray⟩,.string ⟨x.label.toArray⟩,.slice b1 m1 d1,.slice b2 m2 d2,.slice b3 m3 d3,.slice b4 m4 d4,.slice b5 m5 d5] 41)).alloc (.cells #[.int .i64 0,.int .i64 0] 26):=⟨_,rfl⟩
     have hb6:Below w5.heap.size w5 w6:=by rw [hw6];exact ((Below.refl w5.heap.size w5).alloc (Nat.le_refl _) _).alloc (by simp) _
     have hb46:Below w4.heap.size w4 w6:=hB5.trans (hb6.mono hB5.size)
     have q2:w6.cell? ⟨w5.heap.size + 1,0,none⟩=some (.int .i64 0):=by rw [hw6];simp
     have hG6:Holds w6 w5.heap.size 41 [.int .i64 (x.kind:Int),.int .i64 x.n,.string ⟨x.name.toArray⟩,.string ⟨x.label.toArray⟩,.slice b1 m1 d1,.slice b2 m2 d2,.slice b3 m3 d3,.slice b4 m4 d4,.slice b5 m5 d5]:=by rw [hw6];exact (Holds.new w5 41 _).alloc _
     have HG6:=Lib.hid hG6
     have HE6:=Lib.hid (HE4.out.belowAll hb46)
     have hv6:AstG (fun _=>True) w6 x [.int .i64 (x.kind:Int),.int .i64 x.n,.string ⟨x.name.toArray⟩,.string ⟨x.label.toArray⟩,.slice b1 m1 d1,.slice b2 m2 d2,.slice b3 m3 d3,.slice b4 m4 d4,.slice b5 m5 d5]:=⟨_,_,_,_,_,rfl,(hv5.mono (fun _ _ _=>trivial)).up (Keep.below hb6)⟩
     obtain ⟨un,ui,uh,uk,ua,hu1,hu2⟩:=HV.out
     have hv46:AstG (fun _=>True) w6 x [.int .i64 k,.int .i64 n,.string nm,.string lb,.slice a1 n1 c1,.slice a2 n2 c2,.slice a3 n3 c3,.slice a4 n4 c4,.slice a5 n5 c5]:=⟨un,ui,uh,uk,ua,hu1,hu2.up (Keep.below hb46)⟩
     have HC:=Lib.hid (sameD x hv46 hv6)
     have HB6:=Lib.hid (HB4.out.trans (hb46.mono HB4.out.size))
     rw [← hw6]
     clear hw6 hb6 hb46 hG6 hv6 hv46 hv5 hB5 hu1 hu2 HV HE4
     have f0:=HE6.out.cell 0
     have g0:=HG6.out.cell 0
     have f1:=HE6.out.cell 1
     have g1:=HG6.out.cell 1
     have f2:=HE6.out.cell 2
     have g2:=HG6.out.cell 2
     have f3:=HE6.out.cell 3
     have g3:=HG6.out.cell 3
     have f4:=HE6.out.cell 4
     have g4:=HG6.out.cell 4
     have f5:=HE6.out.cell 5
     have g5:=HG6.out.cell 5
     have f6:=HE6.out.cell 6
     have g6:=HG6.out.cell 6
     have f7:=HE6.out.cell 7
     have g7:=HG6.out.cell 7
     have f8:=HE6.out.cell 8
     have g8:=HG6.out.cell 8
     simp only [List.getElem?_cons_zero,List.getElem?_cons_succ] at f0 g0 f1 g1 f2 g2 f3 g3 f4 g4 f5 g5 f6 g6 f7 g7 f8 g8
     go_wp2_with (fail)
     refine HC.out.mono ?_
     rintro e w7 ⟨rfl,hB7⟩
     have HB7:=Lib.hid (HB6.out.trans (hB7.mono HB6.out.size))
     clear hB7
     go_wp2
     go_ret
     exact ⟨rfl,HB7.out⟩
   ·have e3:((c9:Int) == 0)=false:=by simp;omega
    go_wp2
    go_ret
    exact ⟨rfl,HB4.out⟩
 ·have e1:((c:Int) == 0)=false:=by simp;omega
  go_wp2
  go_ret
  exact ⟨rfl,HB4.out⟩
end Go.Proofs.YtpoghableadkcaaGreatDoor
end
section
/- What the rows' list gives the walks; the world that the door's own run leaves. -/
namespace Go.Proofs.YtpoghableadkcaaGreatDoor
open Go.ChangeShapes Go.WideShapes Go.ChangeAt Go.RowKit
set_option linter.unusedVariables false

theorem own:ownKnob Tryz.prog.godebug=none:=by kernel_rfl
def lexLaid:List (String × DataW Unit):=[("unicode.White_Space",Rows.laid_unicode_White_Space),("strings.asciiSpace",Rows.laid_strings_asciiSpace)]
theorem asciiType:(Tryz.prog.globals[0]?).map (·.type)=some 170:=by kernel_rfl
theorem cellsT:Tryz.prog.cellsOf 170=256:=by kernel_rfl
theorem cells5:Tryz.prog.cellsOf 5=1:=by kernel_rfl
theorem asciiData:(Rows.laid_strings_asciiSpace:DataW Unit)=Lib.tabData .u8 Lib.asciiSpaceTab:=by kernel_rfl

theorem tab_of {W:World} (h:laidMetH Tryz.prog lexLaid W):Lib.TabIs Tryz.prog W "strings.asciiSpace" .u8 Lib.asciiSpaceTab:=by
 rw [MakeChecks.laidMetH_plain _ _ _ (by kernel_rfl)] at h
 obtain ⟨ps,⟨g0,t0,cs0,f0,p0,q0,hg0,ht0,hv0,hd0,⟨g1,t1,cs1,f1,p1,q1,hg1,ht1,hv1,hd1,_,_⟩,_⟩,_,_⟩:=h
 obtain rfl:=Option.some.inj (tab_at.symm.trans hg1)
 obtain rfl:=Option.some.inj (asciiType.symm.trans ht1)
 unfold Lib.TabIs
 rw [asciiData] at hd1
 rw [hv1,← Lib.cells_of_tab Tryz.underlying170 Tryz.underlying5 cells5 cellsT hd1]

theorem sound_of {W:World} (h:laidMetH Tryz.prog lexLaid W) (hs:W.ShapedOpen Tryz.prog):Wd W:=by
 obtain ⟨m,hm⟩:=Tryz.laysM143.s1_3 W hs
 have hm':W.cell? ⟨1,0,none⟩=some (.int .i64 m):=hm
 exact ⟨⟨m,hm'⟩,World.block_lt_of_cell? W _ hm',tab_of h⟩

theorem door_met (os:Os) (args:Array Value):laidMetH Tryz.prog lexLaid ((World.doorLaid Tryz.prog 400 os).forCall (fun _ _=>0) ⟨#[],args,[]⟩).memory:=
 laidMetH_of_parts3 (fuel:=8) (laidMet_of_run' 8 (by kernel_rfl) (by kernel_rfl)) (by kernel_rfl) (by kernel_rfl)
end Go.Proofs.YtpoghableadkcaaGreatDoor
end
