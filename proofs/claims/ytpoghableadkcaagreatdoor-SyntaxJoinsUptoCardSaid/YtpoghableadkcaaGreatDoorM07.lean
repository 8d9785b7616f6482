/- Ast, One, OneAt, joined. -/
import Derived.Test.YtpoghableadkcaaGreatDoorM06
import Derived.Maps.AppendAt
section
/- Expressions in memory. -/
namespace Go.Proofs.YtpoghableadkcaaGreatDoor
open Go.RowKit
set_option linter.unusedVariables false

/-- Blocks from lo on have not turned. -/
abbrev Up (lo:Nat) (w w':World):Prop:=Fr (fun k=>k < lo) w w'
theorem Up.of_fp {lo p:Nat} {w w':World} (h:Fp p w w') (hp:p < lo):Up lo w w':=h.mono fun k _ hk=>by rw [hk];exact hp
theorem Up.of_below {lo:Nat} {w w':World} (h:Below w.heap.size w w'):Up lo w w':=Fr.of_below h _
theorem Up.trans {lo:Nat} {a b c:World} (h:Up lo a b) (k:Up lo b c):Up lo a c:=Fr.trans h k fun _ _ h=>h
theorem Up.mono {lo lo':Nat} {w w':World} (h:Up lo w w') (hl:lo ≤ lo'):Up lo' w w':=Fr.mono h fun k _ (hk:k < lo)=>Nat.lt_of_lt_of_le hk hl
theorem Up.refl (lo:Nat) (w:World):Up lo w w:=Fr.refl _ _
theorem Up.set {lo:Nat} {a w:World} (h:Up lo a w) {b:Nat} (hb:b < lo∨a.heap.size ≤ b) (i:Nat) (u:Value):Up lo a (w.setCell ⟨b,i,none⟩ u):=Fr.setCell h (fun hk=>hb.elim id fun hb=>absurd hk (Nat.not_lt.2 hb)) u
theorem Up.alloc {lo:Nat} {a w:World} (h:Up lo a w) (o:Obj):Up lo a (w.alloc o):=Fr.alloc h o

/-- The blocks of P have not turned;they lie in Q. -/
def Keep (P:Nat→Prop) (w w':World):Prop:=∀ k,P k→k < w.heap.size→w'.heap[k]?=w.heap[k]?
def Wide (P Q:Nat→Prop) (w:World):Prop:=∀ k,P k→k < w.heap.size→Q k
abbrev From (lo:Nat):Nat→Prop:=fun k=>lo ≤ k
theorem Up.keep {lo:Nat} {w w':World} (h:Up lo w w'):Keep (From lo) w w':=fun k hk hs=>h.block k hs (Nat.not_lt.2 hk)
theorem Wide.from {a b:Nat} {w:World} (h:a ≤ b):Wide (From b) (From a) w:=fun k hk _=>Nat.le_trans h hk

/-- A slice that reads flat,its row lying in a block of P. -/
def RowL (P:Nat→Prop) (w:World) (size:Nat) (v:Value) (n:Nat) (flat:List Value):Prop:=
 ∃ a cap,v=.slice a n cap∧n ≤ cap∧cap ≤ 9223372036854775807∧flat.length=n * size∧(a=none→cap=0)∧(0 < n→∃ g o cs t,a=some ⟨g,o,none⟩∧P g∧Holds w g t cs∧∀ j,j < n * size→cs[o + j]?=flat[j]?)
section
variable {P Q:Nat→Prop} {size n:Nat} {w w':World} {v:Value} {flat:List Value}
theorem RowL.up (h:RowL P w size v n flat) (hu:Keep P w w'):RowL P w' size v n flat:=by
 obtain ⟨a,cap,h1,h2,h3,h4,h5,h6⟩:=h
 refine ⟨a,cap,h1,h2,h3,h4,h5,fun hn=>?_⟩
 obtain ⟨g,o,cs,t,k1,k2,k3,k4⟩:=h6 hn
 exact ⟨g,o,cs,t,k1,k2,k3.of_eq (hu _ k2 k3.lt),k4⟩
theorem RowL.mono (h:RowL P w size v n flat) (hl:Wide P Q w):RowL Q w size v n flat:=by
 obtain ⟨a,cap,h1,h2,h3,h4,h5,h6⟩:=h
 refine ⟨a,cap,h1,h2,h3,h4,h5,fun hn=>?_⟩
 obtain ⟨g,o,cs,t,k1,k2,k3,k4⟩:=h6 hn
 exact ⟨g,o,cs,t,k1,hl _ k2 k3.lt,k3,k4⟩
theorem RowL.nil (P:Nat→Prop) (w:World) (size:Nat):RowL P w size (.slice none 0 0) 0 []:=⟨none,0,rfl,by omega,by omega,by simp,fun _=>rfl,fun h=>by omega⟩
theorem RowL.form (h:RowL P w size v n flat):∃ a cap,v=.slice a n cap∧n ≤ cap∧cap ≤ 9223372036854775807∧(a=none→cap=0):=by
 obtain ⟨a,cap,h1,h2,h3,h4,h5,h6⟩:=h
 exact ⟨a,cap,h1,h2,h3,h5⟩
theorem RowL.of_owns {base:Nat} {e:TypeId} (h:w.ownsRow base e size v n flat) (hl:∀ k,base ≤ k→P k):RowL P w size v n flat:=by
 have hlen:=h.1
 rcases h.2 with ⟨h0,h1⟩ | ⟨g,cap,cur,hv,hb,hg,hnc,hcm,hcs,ht⟩
 ·subst h0
  subst h1
  exact ⟨none,0,rfl,by omega,by omega,hlen,fun _=>rfl,fun hn=>by omega⟩
 ·subst hv
  exact ⟨some ⟨g,0,none⟩,cap,rfl,hnc,by unfold maxLen at hcm;omega,hlen,(fun h=>by cases h),fun hn=>⟨g,0,cur.toList,e,rfl,hl _ hb,(show Holds w g e cur.toList by unfold Holds;simpa using hg),fun j hj=>by
   have h2:=h.cellAt (g:=g) (j:=j) hj
   rw [Nat.zero_add,← h2,Holds.cell (show Holds w g e cur.toList by unfold Holds;simpa using hg)]⟩⟩
theorem RowL.of_holds {g n:Nat} {t:TypeId} {cs:List Value} (h:Holds w g t cs) (hl:P g) (hn:n ≤ 65536) (hs:cs.length=n * size):RowL P w size (.slice (some ⟨g,0,none⟩) n n) n cs:=
 ⟨some ⟨g,0,none⟩,n,rfl,Nat.le_refl _,by omega,hs,(fun h=>by cases h),fun _=>⟨g,0,cs,t,rfl,hl,h,fun j _=>by rw [Nat.zero_add]⟩⟩
end

def Ast.kind:Ast→Nat | .mk k _ _ _ _ _ _ _ _=>k
def Ast.n:Ast→Int | .mk _ n _ _ _ _ _ _ _=>n
def Ast.name:Ast→Bs | .mk _ _ s _ _ _ _ _ _=>s
def Ast.label:Ast→Bs | .mk _ _ _ s _ _ _ _ _=>s
def Ast.cells (a:Ast) (vn vi vh vk va:Value):List Value:=[.int .i64 (a.kind:Int),.int .i64 a.n,.string ⟨a.name.toArray⟩,.string ⟨a.label.toArray⟩,vn,vi,vh,vk,va]
def Ast.val (a:Ast) (vn vi vh vk va:Value):Value:=.agg #[.int .i64 (a.kind:Int),.int .i64 a.n,.string ⟨a.name.toArray⟩,.string ⟨a.label.toArray⟩,vn,vi,vh,vk,va]

mutual
/-- The rows of an expression. -/
def AstF (P:Nat→Prop) (w:World):Ast→Value→Value→Value→Value→Value→Prop
 | .mk _ _ _ _ names index has kids args,vn,vi,vh,vk,va=>
  RowL P w 1 vn names.length (names.map strV)∧(∃ f,RowL P w 9 vi index.length f∧AstsF P w index f)∧RowL P w 1 vh has.length (has.map .bool) ∧
  (∃ f,RowL P w 9 vk kids.length f∧AstsF P w kids f)∧(∃ f,RowL P w 11 va args.length f∧ArgsF P w args f)
def AstsF (P:Nat→Prop) (w:World):List Ast→List Value→Prop
 | [],f=>f=[]
 | a :: l,f=>∃ vn vi vh vk va r,f=Ast.cells a vn vi vh vk va ++ r∧AstF P w a vn vi vh vk va∧AstsF P w l r
def ArgF (P:Nat→Prop) (w:World):Arg→List Value→Prop
 | .mk m any e,f=>∃ vn vi vh vk va,f=.bool m :: .bool any :: Ast.cells e vn vi vh vk va∧AstF P w e vn vi vh vk va
def ArgsF (P:Nat→Prop) (w:World):List Arg→List Value→Prop
 | [],f=>f=[]
 | a :: l,f=>∃ c r,f=c ++ r∧ArgF P w a c∧ArgsF P w l r
end
mutual
theorem AstF.up {P:Nat→Prop} {w w':World} (hu:Keep P w w'):∀ (a:Ast) {vn vi vh vk va:Value},AstF P w a vn vi vh vk va→AstF P w' a vn vi vh vk va
 | .mk _ _ _ _ names index has kids args,vn,vi,vh,vk,va,h=>by
  rw [AstF] at h ⊢
  obtain ⟨h1,⟨f,h2,h3⟩,h4,⟨g,h5,h6⟩,⟨k,h7,h8⟩⟩:=h
  exact ⟨h1.up hu,⟨f,h2.up hu,AstsF.up hu index h3⟩,h4.up hu,⟨g,h5.up hu,AstsF.up hu kids h6⟩,⟨k,h7.up hu,ArgsF.up hu args h8⟩⟩
theorem AstsF.up {P:Nat→Prop} {w w':World} (hu:Keep P w w'):∀ (l:List Ast) {f:List Value},AstsF P w l f→AstsF P w' l f
 | [],f,h=>by rw [AstsF] at h ⊢;exact h
 | a :: l,f,h=>by
  rw [AstsF] at h ⊢
  obtain ⟨vn,vi,vh,vk,va,r,h1,h2,h3⟩:=h
  exact ⟨vn,vi,vh,vk,va,r,h1,AstF.up hu a h2,AstsF.up hu l h3⟩
theorem ArgF.up {P:Nat→Prop} {w w':World} (hu:Keep P w w'):∀ (a:Arg) {f:List Value},ArgF P w a f→ArgF P w' a f
 | .mk m any e,f,h=>by
  rw [ArgF] at h ⊢
  obtain ⟨vn,vi,vh,vk,va,h1,h2⟩:=h
  exact ⟨vn,vi,vh,vk,va,h1,AstF.up hu e h2⟩
theorem ArgsF.up {P:Nat→Prop} {w w':World} (hu:Keep P w w'):∀ (l:List Arg) {f:List Value},ArgsF P w l f→ArgsF P w' l f
 | [],f,h=>by rw [ArgsF] at h ⊢;exact h
 | a :: l,f,h=>by
  rw [ArgsF] at h ⊢
  obtain ⟨c,r,h1,h2,h3⟩:=h
  exact ⟨c,r,h1,ArgF.up hu a h2,ArgsF.up hu l h3⟩
end
mutual
theorem AstF.mono {P Q:Nat→Prop} {w:World} (hl:Wide P Q w):∀ (a:Ast) {vn vi vh vk va:Value},AstF P w a vn vi vh vk va→AstF Q w a vn vi vh vk va
 | .mk _ _ _ _ names index has kids args,vn,vi,vh,vk,va,h=>by
  rw [AstF] at h ⊢
  obtain ⟨h1,⟨f,h2,h3⟩,h4,⟨g,h5,h6⟩,⟨k,h7,h8⟩⟩:=h
  exact ⟨h1.mono hl,⟨f,h2.mono hl,AstsF.mono hl index h3⟩,h4.mono hl,⟨g,h5.mono hl,AstsF.mono hl kids h6⟩,⟨k,h7.mono hl,ArgsF.mono hl args h8⟩⟩
theorem AstsF.mono {P Q:Nat→Prop} {w:World} (hl:Wide P Q w):∀ (l:List Ast) {f:List Value},AstsF P w l f→AstsF Q w l f
 | [],f,h=>by rw [AstsF] at h ⊢;exact h
 | a :: l,f,h=>by
  rw [AstsF] at h ⊢
  obtain ⟨vn,vi,vh,vk,va,r,h1,h2,h3⟩:=h
  exact ⟨vn,vi,vh,vk,va,r,h1,AstF.mono hl a h2,AstsF.mono hl l h3⟩
theorem ArgF.mono {P Q:Nat→Prop} {w:World} (hl:Wide P Q w):∀ (a:Arg) {f:List Value},ArgF P w a f→ArgF Q w a f
 | .mk m any e,f,h=>by
  rw [ArgF] at h ⊢
  obtain ⟨vn,vi,vh,vk,va,h1,h2⟩:=h
  exact ⟨vn,vi,vh,vk,va,h1,AstF.mono hl e h2⟩
theorem ArgsF.mono {P Q:Nat→Prop} {w:World} (hl:Wide P Q w):∀ (l:List Arg) {f:List Value},ArgsF P w l f→ArgsF Q w l f
 | [],f,h=>by rw [ArgsF] at h ⊢;exact h
 | a :: l,f,h=>by
  rw [ArgsF] at h ⊢
  obtain ⟨c,r,h1,h2,h3⟩:=h
  exact ⟨c,r,h1,ArgF.mono hl a h2,ArgsF.mono hl l h3⟩
end
theorem AstsF.append {P:Nat→Prop} {w:World}:∀ {l m:List Ast} {f g:List Value},AstsF P w l f→AstsF P w m g→AstsF P w (l ++ m) (f ++ g)
 | [],m,f,g,h,k=>by rw [AstsF] at h;subst h;exact k
 | a :: l,m,f,g,h,k=>by
  rw [AstsF] at h
  obtain ⟨vn,vi,vh,vk,va,r,rfl,h2,h3⟩:=h
  rw [List.cons_append,AstsF,List.append_assoc]
  exact ⟨vn,vi,vh,vk,va,r ++ g,rfl,h2,AstsF.append h3 k⟩
theorem ArgsF.append {P:Nat→Prop} {w:World}:∀ {l m:List Arg} {f g:List Value},ArgsF P w l f→ArgsF P w m g→ArgsF P w (l ++ m) (f ++ g)
 | [],m,f,g,h,k=>by rw [ArgsF] at h;subst h;exact k
 | a :: l,m,f,g,h,k=>by
  rw [ArgsF] at h
  obtain ⟨c,r,rfl,h2,h3⟩:=h
  rw [List.cons_append,ArgsF,List.append_assoc]
  exact ⟨c,r ++ g,rfl,h2,ArgsF.append h3 k⟩

theorem AstF.forms {P:Nat→Prop} {w:World} {a:Ast} {vn vi vh vk va:Value} (h:AstF P w a vn vi vh vk va):∃ a1 n1 c1 a2 n2 c2 a3 n3 c3 a4 n4 c4 a5 n5 c5,vn=.slice a1 n1 c1∧vi=.slice a2 n2 c2∧vh=.slice a3 n3 c3∧vk=.slice a4 n4 c4∧va=.slice a5 n5 c5:=by
 cases a
 rw [AstF] at h
 obtain ⟨h1,⟨f,h2,_⟩,h3,⟨g,h4,_⟩,⟨k,h5,_⟩⟩:=h
 obtain ⟨a1,c1,e1,_⟩:=h1
 obtain ⟨a2,c2,e2,_⟩:=h2
 obtain ⟨a3,c3,e3,_⟩:=h3
 obtain ⟨a4,c4,e4,_⟩:=h4
 obtain ⟨a5,c5,e5,_⟩:=h5
 exact ⟨_,_,_,_,_,_,_,_,_,_,_,_,_,_,_,e1,e2,e3,e4,e5⟩

/-- An expression;a variable;an argument: as values. -/
def AstV (P:Nat→Prop) (w:World) (v:Value) (a:Ast):Prop:=∃ vn vi vh vk va,v=Ast.val a vn vi vh vk va∧AstF P w a vn vi vh vk va
def RfV (P:Nat→Prop) (w:World) (v:Value) (r:Rf):Prop:=∃ vn vi vh,v=.agg #[vn,vi,vh]∧RowL P w 1 vn r.names.length (r.names.map strV)∧(∃ f,RowL P w 9 vi r.index.length f∧AstsF P w r.index f)∧RowL P w 1 vh r.has.length (r.has.map .bool)
def ArgV (P:Nat→Prop) (w:World) (v:Value):Arg→Prop | .mk m any e=>∃ vn vi vh vk va,v=.agg #[.bool m,.bool any,.int .i64 (e.kind:Int),.int .i64 e.n,.string ⟨e.name.toArray⟩,.string ⟨e.label.toArray⟩,vn,vi,vh,vk,va]∧AstF P w e vn vi vh vk va
def Arg.m:Arg→Bool | .mk m _ _=>m
def Arg.any:Arg→Bool | .mk _ n _=>n
def Arg.e:Arg→Ast | .mk _ _ e=>e
theorem ArgV.open_ {P:Nat→Prop} {w:World} {v:Value} {a:Arg} (h:ArgV P w v a):∃ vn vi vh vk va,v=.agg #[.bool a.m,.bool a.any,.int .i64 (a.e.kind:Int),.int .i64 a.e.n,.string ⟨a.e.name.toArray⟩,.string ⟨a.e.label.toArray⟩,vn,vi,vh,vk,va]∧AstF P w a.e vn vi vh vk va:=by
 cases a
 exact h
theorem ArgF.mk {P:Nat→Prop} {w:World} {a:Arg} {vn vi vh vk va:Value} (h:AstF P w a.e vn vi vh vk va):ArgF P w a [.bool a.m,.bool a.any,.int .i64 (a.e.kind:Int),.int .i64 a.e.n,.string ⟨a.e.name.toArray⟩,.string ⟨a.e.label.toArray⟩,vn,vi,vh,vk,va]:=by
 cases a
 rw [ArgF]
 exact ⟨_,_,_,_,_,rfl,h⟩
/-- A row of expressions. -/
def AstsV (P:Nat→Prop) (w:World) (v:Value) (l:List Ast):Prop:=∃ f,RowL P w 9 v l.length f∧AstsF P w l f
def ArgsV (P:Nat→Prop) (w:World) (v:Value) (l:List Arg):Prop:=∃ f,RowL P w 11 v l.length f∧ArgsF P w l f
def StrsV (P:Nat→Prop) (w:World) (v:Value) (l:List Bs):Prop:=RowL P w 1 v l.length (l.map strV)
section
variable {P Q:Nat→Prop} {w w':World} {v:Value}
theorem AstV.up {a:Ast} (h:AstV P w v a) (hu:Keep P w w'):AstV P w' v a:=by
 obtain ⟨vn,vi,vh,vk,va,h1,h2⟩:=h
 exact ⟨vn,vi,vh,vk,va,h1,h2.up hu⟩
theorem AstV.mono {a:Ast} (h:AstV P w v a) (hl:Wide P Q w):AstV Q w v a:=by
 obtain ⟨vn,vi,vh,vk,va,h1,h2⟩:=h
 exact ⟨vn,vi,vh,vk,va,h1,h2.mono hl⟩
theorem AstsV.up {a:List Ast} (h:AstsV P w v a) (hu:Keep P w w'):AstsV P w' v a:=by
 obtain ⟨f,h1,h2⟩:=h
 exact ⟨f,h1.up hu,h2.up hu⟩
theorem AstsV.mono {a:List Ast} (h:AstsV P w v a) (hl:Wide P Q w):AstsV Q w v a:=by
 obtain ⟨f,h1,h2⟩:=h
 exact ⟨f,h1.mono hl,h2.mono hl⟩
theorem ArgsV.up {a:List Arg} (h:ArgsV P w v a) (hu:Keep P w w'):ArgsV P w' v a:=by
 obtain ⟨f,h1,h2⟩:=h
 exact ⟨f,h1.up hu,h2.up hu⟩
theorem ArgsV.mono {a:List Arg} (h:ArgsV P w v a) (hl:Wide P Q w):ArgsV Q w v a:=by
 obtain ⟨f,h1,h2⟩:=h
 exact ⟨f,h1.mono hl,h2.mono hl⟩
theorem RfV.up {a:Rf} (h:RfV P w v a) (hu:Keep P w w'):RfV P w' v a:=by
 obtain ⟨vn,vi,vh,h1,h2,h3,h4⟩:=h
 exact ⟨vn,vi,vh,h1,h2.up hu,AstsV.up h3 hu,h4.up hu⟩
theorem RfV.mono {a:Rf} (h:RfV P w v a) (hl:Wide P Q w):RfV Q w v a:=by
 obtain ⟨vn,vi,vh,h1,h2,h3,h4⟩:=h
 exact ⟨vn,vi,vh,h1,h2.mono hl,AstsV.mono h3 hl,h4.mono hl⟩
theorem ArgV.up {a:Arg} (h:ArgV P w v a) (hu:Keep P w w'):ArgV P w' v a:=by
 cases a
 obtain ⟨vn,vi,vh,vk,va,h1,h2⟩:=h
 exact ⟨vn,vi,vh,vk,va,h1,h2.up hu⟩
theorem ArgV.mono {a:Arg} (h:ArgV P w v a) (hl:Wide P Q w):ArgV Q w v a:=by
 cases a
 obtain ⟨vn,vi,vh,vk,va,h1,h2⟩:=h
 exact ⟨vn,vi,vh,vk,va,h1,h2.mono hl⟩
theorem AstV.zero:AstV P w (.agg #[.int .i64 0,.int .i64 0,.string ⟨#[]⟩,.string ⟨#[]⟩,.slice none 0 0,.slice none 0 0,.slice none 0 0,.slice none 0 0,.slice none 0 0]) .zero:=
 ⟨_,_,_,_,_,rfl,by
  unfold Ast.zero
  rw [AstF]
  exact ⟨RowL.nil _ _ _,⟨[],RowL.nil _ _ _,by rw [AstsF]⟩,RowL.nil _ _ _,⟨[],RowL.nil _ _ _,by rw [AstsF]⟩,⟨[],RowL.nil _ _ _,by rw [ArgsF]⟩⟩⟩
end
end Go.Proofs.YtpoghableadkcaaGreatDoor
end
section
/- Function values that read one thing. -/
namespace Go.Proofs.YtpoghableadkcaaGreatDoor
open Go.RowKit
set_option linter.unusedVariables false

/-- A function value that reads one thing at the parser. -/
structure OneOk (p:Nat) (vl:Value) (E:Env) {A:Type} (V:(Nat→Prop)→World→Value→A→Prop) (g:Nat) (fs cs:Array Value) (one:Nat→R A):Prop where
 enters:∀ args w,(callFunc g args).run Tryz.prog w=.ok (.enter g args) w
 calls:∀ {w:World} {i:Nat},Par w p vl E i→one i ≠ .out→Calls Tryz.prog g (fs ++ cs) w (Out p vl E w (V (From w.heap.size)) (one i))

theorem owns_lit {w:World} {base g size:Nat} {t:TypeId} {cs:List Value} (h:Holds w g t cs) (hb:base ≤ g) (hs:cs.length=size) (h1:size ≤ 65536):w.ownsRow base t size (.slice (some ⟨g,0,none⟩) 1 1) 1 cs:=
 ⟨by rw [hs,Nat.one_mul],.inr ⟨g,1,cs.toArray,rfl,hb,h,Nat.le_refl _,by unfold maxLen;omega,by simp [hs],by rw [Nat.one_mul,← hs];simp⟩⟩
theorem info_of {P:Program} {e:TypeId} {sz bytes:Nat} (h:(P.info? e).map (fun i=>(i.zero.map fun z=>z.cells.size,i.size,i.bytes))=some (some sz,sz,bytes)):
  ∃ i z,P.info? e=some i∧i.zero=some z∧i.size=sz∧i.bytes=bytes∧z.cells.size=sz:=by
 obtain ⟨i,hi,hzz⟩:=Option.map_eq_some_iff.1 h
 simp only [Prod.mk.injEq] at hzz
 obtain ⟨z,hz,hs⟩:=Option.map_eq_some_iff.1 hzz.1
 exact ⟨i,z,hi,hz,hzz.2.1,hzz.2.2,hs⟩

/-- What a loop that appends keeps: the parser;what was there. -/
theorem Par.grown {w w':World} {p:Nat} {vl:Value} {E:Env} {i:Nat} {b:Option Nat} (h:Par w p vl E i) (hg:w.grownBy w' b) (hb:∀ g,b=some g→p < g):Par w' p vl E i:=
 h.keep fun k hk=>hg.block k (Nat.lt_of_le_of_lt hk h.lt) fun e=>by have:=hb k e.symm;omega
theorem Fp.grown {p:Nat} {a w w':World} {b:Option Nat} (h:Fp p a w) (hg:w.grownBy w' b) (hb:∀ g,b=some g→a.heap.size ≤ g):Fp p a w':=
 Fr.grown h hg fun k e hk=>by have:=hb k e;omega
theorem owns_ge {w:World} {base size n:Nat} {t:TypeId} {v:Value} {xs:List Value} (h:w.ownsRow base t size v n xs):∀ g,v.ownBlock=some g→base ≤ g:=fun g e=>(h.lt g e).1
theorem owns_lt {w:World} {base size n:Nat} {t:TypeId} {v:Value} {xs:List Value} (h:w.ownsRow base t size v n xs):∀ g,v.ownBlock=some g→g < w.heap.size:=fun g e=>(h.lt g e).2
/-- Outside a block. -/
abbrev But (base:Nat) (v:Value):Nat→Prop:=fun k=>base ≤ k∧v.ownBlock ≠ some k
theorem Keep.grown {base:Nat} {w w':World} {v:Value} (hg:w.grownBy w' v.ownBlock):Keep (But base v) w w':=fun k hk hs=>hg.block k hs fun e=>hk.2 e.symm
theorem Wide.grown {base:Nat} {w w':World} {v v':Value} (hs:w.heap.size ≤ w'.heap.size) (h:v'.ownBlock=v.ownBlock∨v'.ownBlock=some w.heap.size):∀ k,But base v k→k < w.heap.size→But base v' k:=fun k hk hl=>
 ⟨hk.1,h.elim (fun h=>by rw [h];exact hk.2) (fun h=>by rw [h];intro e;injection e with e;omega)⟩
theorem Keep.fp {base p:Nat} {w w':World} {v:Value} (h:Fp p w w') (hp:p < base):Keep (But base v) w w':=fun k hk hs=>h.block k hs fun e=>by have:=hk.1;omega
theorem Keep.below {P:Nat→Prop} {w w':World} (h:Below w.heap.size w w'):Keep P w w':=fun k _ hs=>h.block k hs
theorem Keep.trans {P:Nat→Prop} {a b c:World} (h:Keep P a b) (k:Keep P b c) (hs:a.heap.size ≤ b.heap.size):Keep P a c:=fun i hi hl=>(k i hi (Nat.lt_of_lt_of_le hl hs)).trans (h i hi hl)
theorem owns_fp {w w':World} {base p size n:Nat} {t:TypeId} {v:Value} {xs:List Value} (h:w.ownsRow base t size v n xs) (hf:Fp p w w') (hp:p < base):w'.ownsRow base t size v n xs:=Fr.owns hf h fun g e he=>by have:=owns_ge h g e;omega
theorem owns_below {w w':World} {base size n:Nat} {t:TypeId} {v:Value} {xs:List Value} (h:w.ownsRow base t size v n xs) (hb:Below w.heap.size w w'):w'.ownsRow base t size v n xs:=(Fr.of_below hb (fun _=>False)).owns h fun _ _ h=>h
theorem Wide.but {base b:Nat} {w:World} {v:Value} (hb:base ≤ b) (hv:v.ownBlock=some w.heap.size):Wide (From b) (But base v) w:=fun k hk hs=>⟨Nat.le_trans hb hk,by rw [hv];intro e;injection e with e;omega⟩
theorem Wide.new {base b:Nat} {w:World} {v:Value} (hv:v.ownBlock=some b) (hb:w.heap.size ≤ b):Wide (From base) (But base v) w:=fun k hk hs=>⟨hk,by rw [hv];intro e;injection e with e;omega⟩
theorem Wide.but2 {base b:Nat} {w wr:World} {v:Value} (hb:base ≤ b) (hv:∀ g,v.ownBlock=some g→g < b):Wide (From b) (But base v) w:=fun k hk hs=>⟨Nat.le_trans hb hk,fun e=>by have:=hv k e;have:b ≤ k:=hk;omega⟩
theorem Wide.of_but {base:Nat} {w:World} {v:Value}:Wide (But base v) (From base) w:=fun k hk _=>hk.1
theorem Wide.in_ {P:Nat→Prop} {w:World}:Wide P (fun k=>P k∧k < w.heap.size) w:=fun k hk hs=>⟨hk,hs⟩
theorem Keep.imp {P Q:Nat→Prop} {w w':World} (h:Keep P w w') (hq:∀ k,Q k→P k):Keep Q w w':=fun k hk hs=>h k (hq k hk) hs
theorem Wide.out {base:Nat} {w w':World} {v v':Value} (h:v'.ownBlock=v.ownBlock∨v'.ownBlock=some w.heap.size):Wide (fun k=>But base v k∧k < w.heap.size) (But base v') w':=fun k hk _=>
 ⟨hk.1.1,h.elim (fun h=>by rw [h];exact hk.1.2) (fun h=>by rw [h];intro e;injection e with e;have:=hk.2;omega)⟩
/-- A loop's fuel. -/
theorem commas_zero {E:Env} {A B:Type} {one:Nat→R A} {i:Nat} {h:List A→Nat→R B}:(commas E one 0 i).bd h=.out:=rfl
theorem commas_no {E:Env} {A B:Type} {one:Nat→R A} {g i:Nat} {h:List A→Nat→R B} (hs:sees E i [[44]]=false):(commas E one (g + 1) i).bd h=h [] i:=by rw [commas,if_neg (by rw [hs];decide)];rfl
theorem bd_bd {A B C:Type} (r:R A) (f:A→Nat→R B) (g:B→Nat→R C):(r.bd f).bd g=r.bd fun a i=>(f a i).bd g:=by cases r <;> rfl
theorem commas_yes {E:Env} {A B:Type} {one:Nat→R A} {g i:Nat} {h:List A→Nat→R B} (hs:sees E i [[44]]=true):(commas E one (g + 1) i).bd h=(one (i + 1)).bd fun a j=>(commas E one g j).bd fun l k=>h (a :: l) k:=by
 rw [commas,if_pos hs,bd_bd]
 congr 1
 funext a j
 rw [bd_bd]
 rfl

def StrE (P:Nat→Prop) (w:World) (v:Value) (s:Bs):Prop:=v=.string ⟨s.toArray⟩
def StrsF (P:Nat→Prop) (w:World) (l:List Bs) (f:List Value):Prop:=f=l.map strV
theorem StrsF.mono {P Q:Nat→Prop} {w:World} (hl:Wide P Q w) (l:List Bs) {f:List Value} (h:StrsF P w l f):StrsF Q w l f:=h
theorem StrsF.up {P:Nat→Prop} {w w':World} (hu:Keep P w w') (l:List Bs) {f:List Value} (h:StrsF P w l f):StrsF P w' l f:=h
theorem StrsF.append {P:Nat→Prop} {w:World} {l m:List Bs} {f g:List Value} (h:StrsF P w l f) (k:StrsF P w m g):StrsF P w (l ++ m) (f ++ g):=by unfold StrsF at *;rw [h,k,List.map_append]
def StrsE (P:Nat→Prop) (w:World) (v:Value) (l:List Bs):Prop:=∃ f,RowL P w 1 v l.length f∧StrsF P w l f
theorem StrsE.row {P:Nat→Prop} {w:World} {v:Value} {l:List Bs} (h:StrsE P w v l):RowL P w 1 v l.length (l.map strV):=by obtain ⟨f,h1,rfl⟩:=h;exact h1
theorem StrsE.up {P:Nat→Prop} {w w':World} {v:Value} {l:List Bs} (h:StrsE P w v l) (hu:Keep P w w'):StrsE P w' v l:=by
 obtain ⟨f,h1,h2⟩:=h
 exact ⟨f,h1.up hu,h2⟩
theorem StrsE.mono {P Q:Nat→Prop} {w:World} {v:Value} {l:List Bs} (h:StrsE P w v l) (hl:Wide P Q w):StrsE Q w v l:=by
 obtain ⟨f,h1,h2⟩:=h
 exact ⟨f,h1.mono hl,h2⟩
theorem need_ne {E:Env} {s:Bs} {i:Nat}:need E s i ≠ .out:=by
 unfold need
 split
 ·exact fun h=>by cases h
 ·rw [wrong_eq];exact fun h=>by cases h
def IntE (P:Nat→Prop) (w:World) (v:Value) (n:Nat):Prop:=v=.int .i64 (n:Int)
def intV (n:Nat):Value:=.int .i64 (n:Int)
def IntsF (P:Nat→Prop) (w:World) (l:List Nat) (f:List Value):Prop:=f=l.map intV
theorem IntsF.mono {P Q:Nat→Prop} {w:World} (hl:Wide P Q w) (l:List Nat) {f:List Value} (h:IntsF P w l f):IntsF Q w l f:=h
theorem IntsF.up {P:Nat→Prop} {w w':World} (hu:Keep P w w') (l:List Nat) {f:List Value} (h:IntsF P w l f):IntsF P w' l f:=h
theorem IntsF.append {P:Nat→Prop} {w:World} {l m:List Nat} {f g:List Value} (h:IntsF P w l f) (k:IntsF P w m g):IntsF P w (l ++ m) (f ++ g):=by unfold IntsF at *;rw [h,k,List.map_append]
def IntsE (P:Nat→Prop) (w:World) (v:Value) (l:List Nat):Prop:=∃ f,RowL P w 1 v l.length f∧IntsF P w l f
theorem IntsE.up {P:Nat→Prop} {w w':World} {v:Value} {l:List Nat} (h:IntsE P w v l) (hu:Keep P w w'):IntsE P w' v l:=by
 obtain ⟨f,h1,h2⟩:=h
 exact ⟨f,h1.up hu,h2⟩
theorem IntsE.mono {P Q:Nat→Prop} {w:World} {v:Value} {l:List Nat} (h:IntsE P w v l) (hl:Wide P Q w):IntsE Q w v l:=by
 obtain ⟨f,h1,h2⟩:=h
 exact ⟨f,h1.mono hl,h2⟩
theorem IntsE.row {P:Nat→Prop} {w:World} {v:Value} {l:List Nat} (h:IntsE P w v l):RowL P w 1 v l.length (l.map intV):=by obtain ⟨f,h1,rfl⟩:=h;exact h1

theorem commas_len {E:Env} {A:Type} {one:Nat→R A} (hadv:∀ i a k,one i=.ok a k→i ≤ k):∀ (g i:Nat) (l:List A) (k:Nat),commas E one g i=.ok l k→i + l.length ≤ k
 | 0,i,l,k,h=>by cases h
 | g + 1,i,l,k,h=>by
  rw [commas] at h
  split at h
  ·cases h1:one (i + 1) with
   | out=>rw [h1] at h;cases h
   | bad c a=>rw [h1] at h;cases h
   | ok a j=>
    rw [h1] at h
    simp only [R.bd] at h
    cases h2:commas E one g j with
    | out=>rw [h2] at h;cases h
    | bad c a=>rw [h2] at h;cases h
    | ok m k2=>
     rw [h2] at h
     injection h with h3 h4
     have:=hadv _ _ _ h1
     have:=commas_len hadv g j m k2 h2
     subst h3
     rw [List.length_cons]
     omega
  ·injection h with h1 h2
   subst h1
   simp
   omega
theorem many_len {E:Env} {A:Type} {one:Nat→R A} (hadv:∀ i a k,one i=.ok a k→i ≤ k) {g i:Nat} {l:List A} {k:Nat} (h:many E one g i=.ok l k):0 < l.length∧i + l.length ≤ k + 1:=by
 unfold many at h
 cases h1:one i with
 | out=>rw [h1] at h;cases h
 | bad c a=>rw [h1] at h;cases h
 | ok a j=>
  rw [h1] at h
  simp only [R.bd] at h
  cases h2:commas E one g j with
  | out=>rw [h2] at h;cases h
  | bad c a=>rw [h2] at h;cases h
  | ok m k2=>
   rw [h2] at h
   injection h with h3 h4
   have:=hadv _ _ _ h1
   have:=commas_len hadv g j m k2 h2
   subst h3
   rw [List.length_cons]
   omega
theorem AstsF.one {P:Nat→Prop} {w:World}:∀ (l:List Ast) {f:List Value},AstsF P w l f→∀ u ∈ f,u.oneCell'=true
 | [],f,h=>by rw [AstsF] at h;subst h;simp
 | a :: l,f,h=>by
  rw [AstsF] at h
  obtain ⟨vn,vi,vh,vk,va,r,rfl,h1,h2⟩:=h
  obtain ⟨z1,y1,x1,z2,y2,x2,z3,y3,x3,z4,y4,x4,z5,y5,x5,rfl,rfl,rfl,rfl,rfl⟩:=h1.forms
  intro u hu
  rcases List.mem_append.1 hu with hu | hu
  ·simp only [Ast.cells,List.mem_cons,List.not_mem_nil,or_false] at hu
   rcases hu with rfl | rfl | rfl | rfl | rfl | rfl | rfl | rfl | rfl <;> rfl
  ·exact AstsF.one l h2 u hu
theorem ArgsF.one {P:Nat→Prop} {w:World}:∀ (l:List Arg) {f:List Value},ArgsF P w l f→∀ u ∈ f,u.oneCell'=true
 | [],f,h=>by rw [ArgsF] at h;subst h;simp
 | a :: l,f,h=>by
  rw [ArgsF] at h
  obtain ⟨c,r,rfl,h1,h2⟩:=h
  cases a
  rw [ArgF] at h1
  obtain ⟨vn,vi,vh,vk,va,rfl,h1⟩:=h1
  obtain ⟨z1,y1,x1,z2,y2,x2,z3,y3,x3,z4,y4,x4,z5,y5,x5,rfl,rfl,rfl,rfl,rfl⟩:=h1.forms
  intro u hu
  rcases List.mem_append.1 hu with hu | hu
  ·simp only [Ast.cells,List.mem_cons,List.not_mem_nil,or_false] at hu
   rcases hu with rfl | rfl | rfl | rfl | rfl | rfl | rfl | rfl | rfl | rfl | rfl <;> rfl
  ·exact ArgsF.one l h2 u hu
/-- A row that is not empty can be appended from. -/
theorem RowL.source {P:Nat→Prop} {w:World} {size n:Nat} {v:Value} {flat:List Value} (h:RowL P w size v n flat) (hn:0 < n):∃ ad cap,v=.slice (some ad) n cap∧(∀ j u,flat[j]?=some u→w.cell? (ad.add j)=some u)∧flat.length=n * size:=by
 obtain ⟨a,cap,h1,h2,h3,h4,h5,h6⟩:=h
 obtain ⟨g,o,cs,t,k1,k2,k3,k4⟩:=h6 hn
 subst k1
 refine ⟨_,cap,h1,fun j u hu=>?_,h4⟩
 have hj:j < flat.length:=(List.getElem?_eq_some_iff.1 hu).1
 rw [Addr.add_lit,k3.cell,k4 j (by omega)]
 exact hu
end Go.Proofs.YtpoghableadkcaaGreatDoor
end
section
/- Function values that read one thing, and look at a box of their own. -/
namespace Go.Proofs.YtpoghableadkcaaGreatDoor
open Go.RowKit
set_option linter.unusedVariables false

/-- The same,in worlds that come behind w0. -/
structure OneAt (w0:World) (p:Nat) (vl:Value) (E:Env) {A:Type} (V:(Nat→Prop)→World→Value→A→Prop) (g:Nat) (fs cs:Array Value) (one:Nat→R A):Prop where
 enters:∀ args w,(callFunc g args).run Tryz.prog w=.ok (.enter g args) w
 calls:∀ {w:World} {i:Nat},Fp p w0 w→Par w p vl E i→one i ≠ .out→Calls Tryz.prog g (fs ++ cs) w (Out p vl E w (V (From w.heap.size)) (one i))
end Go.Proofs.YtpoghableadkcaaGreatDoor
end
