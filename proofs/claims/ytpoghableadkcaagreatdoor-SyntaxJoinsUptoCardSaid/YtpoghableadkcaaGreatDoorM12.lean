/- Exp10, Dat, Fld, ListDvr, Mem, joined. -/
import Derived.Test.YtpoghableadkcaaGreatDoorExp9
import Derived.Test.YtpoghableadkcaaGreatDoorM08
import Derived.Deep.LoopGhost
import Derived.Test.YtpoghableadkcaaGreatDoorM10
import Derived.Deep.MidRow
section
/- What reads expressions, all of it. -/
namespace Go.Proofs.YtpoghableadkcaaGreatDoor
open Go.RowKit
set_option linter.unusedVariables false

theorem exprOk0 (E:Env):ExprOk E 0:=by
 constructor
 ·intros;rename_i h;exact absurd (by rw [expr]) h
 ·intros;rename_i h;exact absurd (by rw [unary]) h
 ·intros;rename_i h;exact absurd (by rw [bracket]) h
 ·intros;rename_i h;exact absurd (by rw [choice]) h
 ·intros;rename_i h;exact absurd (by rw [primary]) h
 ·intros;rename_i h;exact absurd (by rw [named]) h
 ·intros;rename_i h;exact absurd (by rw [ref]) h
 ·intros;rename_i h;exact absurd (by rw [arg]) h
theorem exprOkS {E:Env} {f:Nat} (ih:∀ g,g ≤ f→ExprOk E g):ExprOk E (f + 1) where
 expr:=fun hP hl hne=>exprFn ih hP hl hne
 unary:=fun hP hne=>unaryFn (ih f (Nat.le_refl _)) hP hne
 bracket:=fun hP hne=>bracketFn (ih f (Nat.le_refl _)) hP hne
 choice:=fun hP hv hnp hne=>choiceFn (ih f (Nat.le_refl _)) hP hv hnp hne
 primary:=fun hP hne=>primaryFn (ih f (Nat.le_refl _)) hP hne
 named:=fun hP hne=>namedFn (ih f (Nat.le_refl _)) hP hne
 ref:=fun hP hne=>refFn ih hP hne
 arg:=fun hP hne=>argFn (ih f (Nat.le_refl _)) hP hne
theorem exprOkLe (E:Env):∀ f g,g ≤ f→ExprOk E g
 | 0,g,h=>by
  obtain rfl:g=0:=by omega
  exact exprOk0 E
 | f + 1,g,h=>by
  by_cases hg:g=f + 1
  ·subst hg;exact exprOkS (exprOkLe E f)
  ·exact exprOkLe E f g (by omega)
theorem exprOk (E:Env) (f:Nat):ExprOk E f:=exprOkLe E f f (Nat.le_refl _)
end Go.Proofs.YtpoghableadkcaaGreatDoor
end
section
/- Declarations, statements, units in memory. -/
namespace Go.Proofs.YtpoghableadkcaaGreatDoor
open Go.RowKit
set_option linter.unusedVariables false

/-- A row of things,one behind the other. -/
def LsF {A:Type} (F:(Nat→Prop)→World→A→List Value→Prop) (P:Nat→Prop) (w:World):List A→List Value→Prop
 | [],f=>f=[]
 | a :: l,f=>∃ c r,f=c ++ r∧F P w a c∧LsF F P w l r
section
variable {A:Type} {F:(Nat→Prop)→World→A→List Value→Prop} {P Q:Nat→Prop} {w w':World}
theorem LsF.up (hF:∀ a c,F P w a c→F P w' a c):∀ (l:List A) {f:List Value},LsF F P w l f→LsF F P w' l f
 | [],f,h=>h
 | a :: l,f,⟨c,r,h1,h2,h3⟩=>⟨c,r,h1,hF a c h2,LsF.up hF l h3⟩
theorem LsF.mono (hF:∀ a c,F P w a c→F Q w a c):∀ (l:List A) {f:List Value},LsF F P w l f→LsF F Q w l f
 | [],f,h=>h
 | a :: l,f,⟨c,r,h1,h2,h3⟩=>⟨c,r,h1,hF a c h2,LsF.mono hF l h3⟩
theorem LsF.append:∀ {l m:List A} {f g:List Value},LsF F P w l f→LsF F P w m g→LsF F P w (l ++ m) (f ++ g)
 | [],m,f,g,h,k=>by obtain rfl:=h;exact k
 | a :: l,m,f,g,⟨c,r,h1,h2,h3⟩,k=>⟨c,r ++ g,by rw [h1,List.append_assoc],h2,LsF.append h3 k⟩
theorem LsF.sing {a:A} {c:List Value} (h:F P w a c):LsF F P w [a] c:=⟨c,[],(List.append_nil c).symm,h,rfl⟩
end

/-- A declared variable's cells. -/
def DvF (P:Nat→Prop) (w:World) (d:DVar) (c:List Value):Prop:=
 ∃ sn si sh sk sa en ei eh ek ea vf,c=.string ⟨d.name.toArray⟩ :: .bool d.array :: (Ast.cells d.size sn si sh sk sa ++ (.bool d.init :: (Ast.cells d.e en ei eh ek ea ++ [.bool d.chan,vf]))) ∧
  AstF P w d.size sn si sh sk sa∧AstF P w d.e en ei eh ek ea∧RowL P w 1 vf d.fields.length (d.fields.map intV)
theorem DvF.up {P:Nat→Prop} {w w':World} (hu:Keep P w w') {d:DVar} {c:List Value} (h:DvF P w d c):DvF P w' d c:=by
 obtain ⟨sn,si,sh,sk,sa,en,ei,eh,ek,ea,vf,h1,h2,h3,h4⟩:=h
 exact ⟨sn,si,sh,sk,sa,en,ei,eh,ek,ea,vf,h1,h2.up hu,h3.up hu,h4.up hu⟩
theorem DvF.mono {P Q:Nat→Prop} {w:World} (hl:Wide P Q w) {d:DVar} {c:List Value} (h:DvF P w d c):DvF Q w d c:=by
 obtain ⟨sn,si,sh,sk,sa,en,ei,eh,ek,ea,vf,h1,h2,h3,h4⟩:=h
 exact ⟨sn,si,sh,sk,sa,en,ei,eh,ek,ea,vf,h1,h2.mono hl,h3.mono hl,h4.mono hl⟩
def DvV (P:Nat→Prop) (w:World) (v:Value) (d:DVar):Prop:=∃ c:List Value,v=.agg c.toArray∧DvF P w d c
def DvsF (P:Nat→Prop) (w:World) (l:List DVar) (f:List Value):Prop:=LsF DvF P w l f
theorem DvsF.up {P:Nat→Prop} {w w':World} (hu:Keep P w w') (l:List DVar) {f:List Value} (h:DvsF P w l f):DvsF P w' l f:=LsF.up (fun _ _=>DvF.up hu) l h
theorem DvsF.mono {P Q:Nat→Prop} {w:World} (hl:Wide P Q w) (l:List DVar) {f:List Value} (h:DvsF P w l f):DvsF Q w l f:=LsF.mono (fun _ _=>DvF.mono hl) l h
theorem DvsF.append {P:Nat→Prop} {w:World} {l m:List DVar} {f g:List Value} (h:DvsF P w l f) (k:DvsF P w m g):DvsF P w (l ++ m) (f ++ g):=LsF.append h k
def DvsV (P:Nat→Prop) (w:World) (v:Value) (l:List DVar):Prop:=∃ f,RowL P w 23 v l.length f∧DvsF P w l f
theorem DvsV.up {P:Nat→Prop} {w w':World} {v:Value} {l:List DVar} (h:DvsV P w v l) (hu:Keep P w w'):DvsV P w' v l:=by
 obtain ⟨f,h1,h2⟩:=h
 exact ⟨f,h1.up hu,h2.up hu⟩
theorem DvsV.mono {P Q:Nat→Prop} {w:World} {v:Value} {l:List DVar} (h:DvsV P w v l) (hl:Wide P Q w):DvsV Q w v l:=by
 obtain ⟨f,h1,h2⟩:=h
 exact ⟨f,h1.mono hl,h2.mono hl⟩
/-- A declaration's cells. -/
def DclF (P:Nat→Prop) (w:World) (d:Dcl) (c:List Value):Prop:=∃ vv,c=[.int .i64 d.type,.string ⟨d.named.toArray⟩,vv,.int .i64 (d.at_:Int)]∧DvsV P w vv d.vars
theorem DclF.up {P:Nat→Prop} {w w':World} (hu:Keep P w w') {d:Dcl} {c:List Value} (h:DclF P w d c):DclF P w' d c:=by
 obtain ⟨vv,h1,h2⟩:=h
 exact ⟨vv,h1,h2.up hu⟩
theorem DclF.mono {P Q:Nat→Prop} {w:World} (hl:Wide P Q w) {d:Dcl} {c:List Value} (h:DclF P w d c):DclF Q w d c:=by
 obtain ⟨vv,h1,h2⟩:=h
 exact ⟨vv,h1,h2.mono hl⟩
def DclV (P:Nat→Prop) (w:World) (v:Value) (d:Dcl):Prop:=∃ c:List Value,v=.agg c.toArray∧DclF P w d c
def DclsF (P:Nat→Prop) (w:World) (l:List Dcl) (f:List Value):Prop:=LsF DclF P w l f
theorem DclsF.up {P:Nat→Prop} {w w':World} (hu:Keep P w w') (l:List Dcl) {f:List Value} (h:DclsF P w l f):DclsF P w' l f:=LsF.up (fun _ _=>DclF.up hu) l h
theorem DclsF.mono {P Q:Nat→Prop} {w:World} (hl:Wide P Q w) (l:List Dcl) {f:List Value} (h:DclsF P w l f):DclsF Q w l f:=LsF.mono (fun _ _=>DclF.mono hl) l h
theorem DclsF.append {P:Nat→Prop} {w:World} {l m:List Dcl} {f g:List Value} (h:DclsF P w l f) (k:DclsF P w m g):DclsF P w (l ++ m) (f ++ g):=LsF.append h k
def DclsV (P:Nat→Prop) (w:World) (v:Value) (l:List Dcl):Prop:=∃ f,RowL P w 4 v l.length f∧DclsF P w l f
theorem DclsV.up {P:Nat→Prop} {w w':World} {v:Value} {l:List Dcl} (h:DclsV P w v l) (hu:Keep P w w'):DclsV P w' v l:=by
 obtain ⟨f,h1,h2⟩:=h
 exact ⟨f,h1.up hu,h2.up hu⟩
theorem DclsV.mono {P Q:Nat→Prop} {w:World} {v:Value} {l:List Dcl} (h:DclsV P w v l) (hl:Wide P Q w):DclsV Q w v l:=by
 obtain ⟨f,h1,h2⟩:=h
 exact ⟨f,h1.mono hl,h2.mono hl⟩

mutual
/-- A statement's cells. -/
def StmF (P:Nat→Prop) (w:World):Stm→List Value→Prop
 | .mk kind at_ name text n sorted random keep ref e es args decl opts body,c=>
  ∃ rn ri rh en ei eh ek ea ves vas dv vo vb,c=.int .i64 (kind:Int) :: .int .i64 (at_:Int) :: .string ⟨name.toArray⟩ :: .string ⟨text.toArray⟩ :: .int .i64 n :: .bool sorted :: .bool random :: .bool keep :: rn :: ri :: rh ::
    (Ast.cells e en ei eh ek ea ++ [ves,vas,.int .i64 decl.type,.string ⟨decl.named.toArray⟩,dv,.int .i64 (decl.at_:Int),vo,vb]) ∧
   RfF P w ref rn ri rh∧AstF P w e en ei eh ek ea∧AstsV P w ves es∧ArgsV P w vas args∧DvsV P w dv decl.vars ∧
   (∃ f,RowL P w 1 vo opts.length f∧OptsF P w opts f)∧(∃ f,RowL P w 28 vb body.length f∧StmsF P w body f)
def StmsF (P:Nat→Prop) (w:World):List Stm→List Value→Prop
 | [],f=>f=[]
 | a :: l,f=>∃ c r,f=c ++ r∧StmF P w a c∧StmsF P w l r
def OptsF (P:Nat→Prop) (w:World):List (List Stm)→List Value→Prop
 | [],f=>f=[]
 | a :: l,f=>∃ v r,f=v :: r∧(∃ g,RowL P w 28 v a.length g∧StmsF P w a g)∧OptsF P w l r
end
mutual
theorem StmF.up {P:Nat→Prop} {w w':World} (hu:Keep P w w'):∀ (a:Stm) {c:List Value},StmF P w a c→StmF P w' a c
 | .mk kind at_ name text n sorted random keep ref e es args decl opts body,c,h=>by
  rw [StmF] at h ⊢
  obtain ⟨rn,ri,rh,en,ei,eh,ek,ea,ves,vas,dv,vo,vb,h1,h2,h3,h4,h5,h6,⟨f,h7,h8⟩,⟨g,h9,h10⟩⟩:=h
  exact ⟨rn,ri,rh,en,ei,eh,ek,ea,ves,vas,dv,vo,vb,h1,h2.up hu,h3.up hu,h4.up hu,h5.up hu,h6.up hu,⟨f,h7.up hu,OptsF.up hu opts h8⟩,⟨g,h9.up hu,StmsF.up hu body h10⟩⟩
theorem StmsF.up {P:Nat→Prop} {w w':World} (hu:Keep P w w'):∀ (l:List Stm) {f:List Value},StmsF P w l f→StmsF P w' l f
 | [],f,h=>by rw [StmsF] at h ⊢;exact h
 | a :: l,f,h=>by
  rw [StmsF] at h ⊢
  obtain ⟨c,r,h1,h2,h3⟩:=h
  exact ⟨c,r,h1,StmF.up hu a h2,StmsF.up hu l h3⟩
theorem OptsF.up {P:Nat→Prop} {w w':World} (hu:Keep P w w'):∀ (l:List (List Stm)) {f:List Value},OptsF P w l f→OptsF P w' l f
 | [],f,h=>by rw [OptsF] at h ⊢;exact h
 | a :: l,f,h=>by
  rw [OptsF] at h ⊢
  obtain ⟨v,r,h1,⟨g,h2,h3⟩,h4⟩:=h
  exact ⟨v,r,h1,⟨g,h2.up hu,StmsF.up hu a h3⟩,OptsF.up hu l h4⟩
end
mutual
theorem StmF.mono {P Q:Nat→Prop} {w:World} (hl:Wide P Q w):∀ (a:Stm) {c:List Value},StmF P w a c→StmF Q w a c
 | .mk kind at_ name text n sorted random keep ref e es args decl opts body,c,h=>by
  rw [StmF] at h ⊢
  obtain ⟨rn,ri,rh,en,ei,eh,ek,ea,ves,vas,dv,vo,vb,h1,h2,h3,h4,h5,h6,⟨f,h7,h8⟩,⟨g,h9,h10⟩⟩:=h
  exact ⟨rn,ri,rh,en,ei,eh,ek,ea,ves,vas,dv,vo,vb,h1,h2.mono hl,h3.mono hl,h4.mono hl,h5.mono hl,h6.mono hl,⟨f,h7.mono hl,OptsF.mono hl opts h8⟩,⟨g,h9.mono hl,StmsF.mono hl body h10⟩⟩
theorem StmsF.mono {P Q:Nat→Prop} {w:World} (hl:Wide P Q w):∀ (l:List Stm) {f:List Value},StmsF P w l f→StmsF Q w l f
 | [],f,h=>by rw [StmsF] at h ⊢;exact h
 | a :: l,f,h=>by
  rw [StmsF] at h ⊢
  obtain ⟨c,r,h1,h2,h3⟩:=h
  exact ⟨c,r,h1,StmF.mono hl a h2,StmsF.mono hl l h3⟩
theorem OptsF.mono {P Q:Nat→Prop} {w:World} (hl:Wide P Q w):∀ (l:List (List Stm)) {f:List Value},OptsF P w l f→OptsF Q w l f
 | [],f,h=>by rw [OptsF] at h ⊢;exact h
 | a :: l,f,h=>by
  rw [OptsF] at h ⊢
  obtain ⟨v,r,h1,⟨g,h2,h3⟩,h4⟩:=h
  exact ⟨v,r,h1,⟨g,h2.mono hl,StmsF.mono hl a h3⟩,OptsF.mono hl l h4⟩
end
theorem StmsF.append {P:Nat→Prop} {w:World}:∀ {l m:List Stm} {f g:List Value},StmsF P w l f→StmsF P w m g→StmsF P w (l ++ m) (f ++ g)
 | [],m,f,g,h,k=>by rw [StmsF] at h;subst h;exact k
 | a :: l,m,f,g,h,k=>by
  rw [StmsF] at h
  obtain ⟨c,r,rfl,h2,h3⟩:=h
  rw [List.cons_append,StmsF,List.append_assoc]
  exact ⟨c,r ++ g,rfl,h2,StmsF.append h3 k⟩
theorem OptsF.append {P:Nat→Prop} {w:World}:∀ {l m:List (List Stm)} {f g:List Value},OptsF P w l f→OptsF P w m g→OptsF P w (l ++ m) (f ++ g)
 | [],m,f,g,h,k=>by rw [OptsF] at h;subst h;exact k
 | a :: l,m,f,g,h,k=>by
  rw [OptsF] at h
  obtain ⟨v,r,rfl,h2,h3⟩:=h
  rw [List.cons_append,OptsF]
  exact ⟨v,r ++ g,rfl,h2,OptsF.append h3 k⟩
def StmV (P:Nat→Prop) (w:World) (v:Value) (d:Stm):Prop:=∃ c:List Value,v=.agg c.toArray∧StmF P w d c
def StmsV (P:Nat→Prop) (w:World) (v:Value) (l:List Stm):Prop:=∃ f,RowL P w 28 v l.length f∧StmsF P w l f
def OptsV (P:Nat→Prop) (w:World) (v:Value) (l:List (List Stm)):Prop:=∃ f,RowL P w 1 v l.length f∧OptsF P w l f
section
variable {P Q:Nat→Prop} {w w':World} {v:Value}
theorem StmsV.up {l:List Stm} (h:StmsV P w v l) (hu:Keep P w w'):StmsV P w' v l:=by
 obtain ⟨f,h1,h2⟩:=h
 exact ⟨f,h1.up hu,StmsF.up hu l h2⟩
theorem StmsV.mono {l:List Stm} (h:StmsV P w v l) (hl:Wide P Q w):StmsV Q w v l:=by
 obtain ⟨f,h1,h2⟩:=h
 exact ⟨f,h1.mono hl,StmsF.mono hl l h2⟩
theorem OptsV.up {l:List (List Stm)} (h:OptsV P w v l) (hu:Keep P w w'):OptsV P w' v l:=by
 obtain ⟨f,h1,h2⟩:=h
 exact ⟨f,h1.up hu,OptsF.up hu l h2⟩
theorem OptsV.mono {l:List (List Stm)} (h:OptsV P w v l) (hl:Wide P Q w):OptsV Q w v l:=by
 obtain ⟨f,h1,h2⟩:=h
 exact ⟨f,h1.mono hl,OptsF.mono hl l h2⟩
end
/-- A unit's cells. -/
def UntF (P:Nat→Prop) (w:World) (u:Unt) (c:List Value):Prop:=
 ∃ vn cn ci ch ck ca dv vd vb,c=.int .i64 (u.kind:Int) :: .int .i64 (u.at_:Int) :: .string ⟨u.name.toArray⟩ :: .string ⟨u.text.toArray⟩ :: vn :: .bool u.active ::
   (Ast.cells u.count cn ci ch ck ca ++ [.int .i64 u.decl.type,.string ⟨u.decl.named.toArray⟩,dv,.int .i64 (u.decl.at_:Int),vd,vb]) ∧
  RowL P w 1 vn u.names.length (u.names.map strV)∧AstF P w u.count cn ci ch ck ca∧DvsV P w dv u.decl.vars∧DclsV P w vd u.decls∧StmsV P w vb u.body
theorem UntF.up {P:Nat→Prop} {w w':World} (hu:Keep P w w') {u:Unt} {c:List Value} (h:UntF P w u c):UntF P w' u c:=by
 obtain ⟨vn,cn,ci,ch,ck,ca,dv,vd,vb,h1,h2,h3,h4,h5,h6⟩:=h
 exact ⟨vn,cn,ci,ch,ck,ca,dv,vd,vb,h1,h2.up hu,h3.up hu,h4.up hu,h5.up hu,h6.up hu⟩
theorem UntF.mono {P Q:Nat→Prop} {w:World} (hl:Wide P Q w) {u:Unt} {c:List Value} (h:UntF P w u c):UntF Q w u c:=by
 obtain ⟨vn,cn,ci,ch,ck,ca,dv,vd,vb,h1,h2,h3,h4,h5,h6⟩:=h
 exact ⟨vn,cn,ci,ch,ck,ca,dv,vd,vb,h1,h2.mono hl,h3.mono hl,h4.mono hl,h5.mono hl,h6.mono hl⟩
def UntV (P:Nat→Prop) (w:World) (v:Value) (d:Unt):Prop:=∃ c:List Value,v=.agg c.toArray∧UntF P w d c
def UntsF (P:Nat→Prop) (w:World) (l:List Unt) (f:List Value):Prop:=LsF UntF P w l f
theorem UntsF.up {P:Nat→Prop} {w w':World} (hu:Keep P w w') (l:List Unt) {f:List Value} (h:UntsF P w l f):UntsF P w' l f:=LsF.up (fun _ _=>UntF.up hu) l h
theorem UntsF.mono {P Q:Nat→Prop} {w:World} (hl:Wide P Q w) (l:List Unt) {f:List Value} (h:UntsF P w l f):UntsF Q w l f:=LsF.mono (fun _ _=>UntF.mono hl) l h
theorem UntsF.append {P:Nat→Prop} {w:World} {l m:List Unt} {f g:List Value} (h:UntsF P w l f) (k:UntsF P w m g):UntsF P w (l ++ m) (f ++ g):=LsF.append h k
def UntsV (P:Nat→Prop) (w:World) (v:Value) (l:List Unt):Prop:=∃ f,RowL P w 21 v l.length f∧UntsF P w l f
end Go.Proofs.YtpoghableadkcaaGreatDoor
end
section
/- The walk of a channel's field; what a declared variable's value is. -/
namespace Go.Proofs.YtpoghableadkcaaGreatDoor
open Go.RowKit
set_option linter.unusedVariables false
set_option linter.unusedSimpArgs false

set_option maxHeartbeats 1000000 in
set_option maxRecDepth 100000 in
theorem fieldFn {w:World} {p bx i:Nat} {vl:Value} {E:Env} (hP:Par w p vl E i) (hx:Holds w bx 59 [.pointer (some ⟨p,0,none⟩)]) (hbx:p < bx):
  Calls Tryz.prog 142 #[.pointer (some ⟨bx,0,none⟩)] w (Out p vl E w (IntE (From w.heap.size)) (field E i)):=by
 have HK:=Lib.hid (kindFn hP)
 have HP:=Lib.hid hP
 have hfew:=Nat.le_trans hP.le hP.few
 have c0:w.cell? ⟨bx,0,none⟩=some (.pointer (some ⟨p,0,none⟩)):=hx.cell 0
 have HX:=Lib.hid hx
 obtain ⟨k,hk⟩:∃ k,kindOf E i=k:=⟨_,rfl⟩
 have hk4:k ≠ 0→i < E.L.length:=fun h=>kind_lt (E:=E) (fun h0=>h (by rw [← hk];unfold kindOf;rw [if_neg (by omega)]))
 rw [hk] at HK
 unfold field
 rw [hk]
 have HK4:=Lib.hid hk4
 clear hP hx hk hk4
 by_cases h0:k=0
 ·subst h0
  rw [if_pos rfl,wrong_eq]
  go_enter Tryz.func142,Tryz.ntmps142
  go_wp2_with (fail)
  refine (HK.out).mono ?_
  rintro e w1 ⟨rfl,hb⟩
  have HW:=Lib.hid (wrongFn (HP.out.belowAll hb))
  have c1:w1.cell? ⟨bx,0,none⟩=some (.pointer (some ⟨p,0,none⟩)):=(HX.out.belowAll hb).cell 0
  have HF:Hid (Fp p w w1):=(Fp.of_below hb)
  clear hb
  go_wp2_with (fail)
  refine (HW.out).mono ?_
  rintro e w2 ⟨rfl,hb⟩
  exact ⟨rfl,rfl,HF.out.bel hb⟩
 ·rw [if_neg h0]
  have hk0:((k:Int) == 0)=false:=by simp;omega
  have HLT:=Lib.hid (HK4.out h0)
  clear h0 HK4
  go_enter Tryz.func142,Tryz.ntmps142
  go_wp2_with (fail)
  refine (HK.out).mono ?_
  rintro e w1 ⟨rfl,hb⟩
  have hP1:=HP.out.belowAll hb
  have c1:w1.cell? ⟨bx,0,none⟩=some (.pointer (some ⟨p,0,none⟩)):=(HX.out.belowAll hb).cell 0
  obtain ⟨d0,d1,d2,f2⟩:=hP1.cells
  have HP2:=Lib.hid (hP1.set1 HLT.out)
  have HF2:=Lib.hid ((Fp.of_below (p:=p) hb).set 2 (.int .i64 ((i:Int) + 1)))
  clear hP1 hb
  go_wp2
  go_ret
  exact ⟨_,rfl,rfl,HP2.out,HF2.out⟩
theorem oneField {w:World} {E:Env} {p bx:Nat} {vl:Value} (hx:Holds w bx 59 [.pointer (some ⟨p,0,none⟩)]) (hbx:p < bx):OneAt w p vl E IntE 142 #[] #[.pointer (some ⟨bx,0,none⟩)] (field E):=
 ⟨enters_of Tryz.func142 (by decide) rfl,fun hF hP hne=>fieldFn hP (hx.fp hF hbx) hbx⟩
theorem field_adv {E:Env}:∀ i a k,field E i=.ok a k→i < k∧k ≤ E.L.length:=fun i a k h=>by
 unfold field at h
 split at h
 ·rw [wrong_eq] at h;cases h
 ·next hk=>
  injection h with h1 h2
  have:=kind_lt (E:=E) (i:=i) (fun h0=>hk (by unfold kindOf;rw [if_neg (by omega)]))
  omega
theorem DvV.open_ {P:Nat→Prop} {w:World} {v:Value} {d:DVar} (h:DvV P w v d):∃ sn si sh sk sa en ei eh ek ea vf,v=.agg #[.string ⟨d.name.toArray⟩,.bool d.array,.int .i64 (d.size.kind:Int),.int .i64 d.size.n,.string ⟨d.size.name.toArray⟩,.string ⟨d.size.label.toArray⟩,sn,si,sh,sk,sa,.bool d.init,.int .i64 (d.e.kind:Int),.int .i64 d.e.n,.string ⟨d.e.name.toArray⟩,.string ⟨d.e.label.toArray⟩,en,ei,eh,ek,ea,.bool d.chan,vf] ∧
  AstF P w d.size sn si sh sk sa∧AstF P w d.e en ei eh ek ea∧RowL P w 1 vf d.fields.length (d.fields.map intV):=by
 obtain ⟨c,rfl,sn,si,sh,sk,sa,en,ei,eh,ek,ea,vf,rfl,h2,h3,h4⟩:=h
 exact ⟨sn,si,sh,sk,sa,en,ei,eh,ek,ea,vf,rfl,h2,h3,h4⟩
theorem DvF.mk {P:Nat→Prop} {w:World} {d:DVar} {sn si sh sk sa en ei eh ek ea vf:Value} (h1:AstF P w d.size sn si sh sk sa) (h2:AstF P w d.e en ei eh ek ea) (h3:RowL P w 1 vf d.fields.length (d.fields.map intV)):
  DvF P w d [.string ⟨d.name.toArray⟩,.bool d.array,.int .i64 (d.size.kind:Int),.int .i64 d.size.n,.string ⟨d.size.name.toArray⟩,.string ⟨d.size.label.toArray⟩,sn,si,sh,sk,sa,.bool d.init,.int .i64 (d.e.kind:Int),.int .i64 d.e.n,.string ⟨d.e.name.toArray⟩,.string ⟨d.e.label.toArray⟩,en,ei,eh,ek,ea,.bool d.chan,vf]:=
 ⟨sn,si,sh,sk,sa,en,ei,eh,ek,ea,vf,rfl,h1,h2,h3⟩
end Go.Proofs.YtpoghableadkcaaGreatDoor
end
section
/- The walk of list over declared variables. -/
namespace Go.Proofs.YtpoghableadkcaaGreatDoor
open Go.RowKit
set_option linter.unusedVariables false
set_option linter.unusedSimpArgs false

theorem listDvr_info:(Tryz.prog.info? 108).map (fun i=>(i.zero.map fun z=>z.cells.size,i.size,i.bytes))=some (some 23,23,400):=by kernel_rfl

set_option maxHeartbeats 2000000 in
set_option maxRecDepth 100000 in
theorem listDvrFn {w:World} {p:Nat} {vl:Value} {E:Env} {i:Nat} (f:Nat) (one:Nat→R (DVar)) (g:Nat) (fs cs:Array Value) (hP:Par w p vl E i) (ho:OneOk p vl E DvV g fs cs one) (hadv:∀ i a k,one i=.ok a k→i ≤ k) (hne:many E one f i ≠ .out):
  Calls Tryz.prog 106 #[.pointer (some ⟨p,0,none⟩),.func (.func g) fs cs] w (Out p vl E w (DvsV (From w.heap.size)) (many E one f i)):=by
 have eg:=ho.enters
 have HO:=Lib.hid ho
 have hp1:=hP.lt
 have HA:=Lib.hid hadv
 have HP:=Lib.hid hP
 obtain ⟨Rr,hRr⟩:∃ Rr,many E one f i=Rr:=⟨_,rfl⟩
 rw [hRr] at hne ⊢
 unfold many at hRr
 have HNE:=Lib.hid hne
 clear ho hadv hne
 cases h1:one i with
 | out=>rw [h1] at hRr;exact absurd hRr.symm HNE.out
 | bad c a=>
  rw [h1] at hRr
  subst hRr
  have HC':=HO.out.calls HP.out (by rw [h1];simp)
  rw [h1] at HC'
  have HC:=Lib.hid HC'
  clear h1 HC' hP
  go_enter Tryz.func106,Tryz.ntmps106
  go_wp2_with (fail)
  refine (HC.out).mono ?_
  rintro e w1 ⟨rfl,hF⟩
  exact ⟨rfl,rfl,hF⟩
 | ok a k=>
  rw [h1] at hRr
  have hRr':(commas E one f k).bd (fun l m=>.ok ([a] ++ l) m)=Rr:=hRr
  have HR:=Lib.hid hRr'
  have HC':=HO.out.calls HP.out (by rw [h1];simp)
  rw [h1] at HC'
  have HC:=Lib.hid HC'
  clear h1 HC' hRr' hRr hP
  go_enter Tryz.func106,Tryz.ntmps106
  go_wp2_with (fail)
  refine (HC.out).mono ?_
  rintro e w1 ⟨v,rfl,hv,hP1,hF1⟩
  obtain ⟨sn,si,sh,sk,sa,en,ei,eh,ek,ea,vf,hv,hs,he,hf⟩:=hv.open_;obtain ⟨sa1,sn1,sc1,sa2,sn2,sc2,sa3,sn3,sc3,sa4,sn4,sc4,sa5,sn5,sc5,rfl,rfl,rfl,rfl,rfl⟩:=hs.forms;obtain ⟨ea1,en1,ec1,ea2,en2,ec2,ea3,en3,ec3,ea4,en4,ec4,ea5,en5,ec5,rfl,rfl,rfl,rfl,rfl⟩:=he.forms;obtain ⟨fa,fc,rfl,_⟩:=hf.form;subst hv;have hv:True:=trivial
  have hv1:DvsF (From w.heap.size) w1 [a] #[.string ⟨a.name.toArray⟩,.bool a.array,.int .i64 (a.size.kind:Int),.int .i64 a.size.n,.string ⟨a.size.name.toArray⟩,.string ⟨a.size.label.toArray⟩,.slice sa1 sn1 sc1,.slice sa2 sn2 sc2,.slice sa3 sn3 sc3,.slice sa4 sn4 sc4,.slice sa5 sn5 sc5,.bool a.init,.int .i64 (a.e.kind:Int),.int .i64 a.e.n,.string ⟨a.e.name.toArray⟩,.string ⟨a.e.label.toArray⟩,.slice ea1 en1 ec1,.slice ea2 en2 ec2,.slice ea3 en3 ec3,.slice ea4 en4 ec4,.slice ea5 en5 ec5,.bool a.chan,.slice fa a.fields.length fc].toList:=(LsF.sing (DvF.mk hs he hf))
  have hsz1:=hF1.size
  have hb1:Below w1.heap.size w1 (w1.alloc (.cells #[.string ⟨a.name.toArray⟩,.bool a.array,.int .i64 (a.size.kind:Int),.int .i64 a.size.n,.string ⟨a.size.name.toArray⟩,.string ⟨a.size.label.toArray⟩,.slice sa1 sn1 sc1,.slice sa2 sn2 sc2,.slice sa3 sn3 sc3,.slice sa4 sn4 sc4,.slice sa5 sn5 sc5,.bool a.init,.int .i64 (a.e.kind:Int),.int .i64 a.e.n,.string ⟨a.e.name.toArray⟩,.string ⟨a.e.label.toArray⟩,.slice ea1 en1 ec1,.slice ea2 en2 ec2,.slice ea3 en3 ec3,.slice ea4 en4 ec4,.slice ea5 en5 ec5,.bool a.chan,.slice fa a.fields.length fc] 108)):=(Below.refl _ _).alloc (Nat.le_refl _) _
  have HL1:=Lib.hid (owns_lit (base:=w.heap.size) (Holds.new w1 108 #[.string ⟨a.name.toArray⟩,.bool a.array,.int .i64 (a.size.kind:Int),.int .i64 a.size.n,.string ⟨a.size.name.toArray⟩,.string ⟨a.size.label.toArray⟩,.slice sa1 sn1 sc1,.slice sa2 sn2 sc2,.slice sa3 sn3 sc3,.slice sa4 sn4 sc4,.slice sa5 sn5 sc5,.bool a.init,.int .i64 (a.e.kind:Int),.int .i64 a.e.n,.string ⟨a.e.name.toArray⟩,.string ⟨a.e.label.toArray⟩,.slice ea1 en1 ec1,.slice ea2 en2 ec2,.slice ea3 en3 ec3,.slice ea4 en4 ec4,.slice ea5 en5 ec5,.bool a.chan,.slice fa a.fields.length fc]) hsz1 (by rfl) (by simp))
  have HP1:=Lib.hid (hP1.belowAll hb1)
  have HF1:=Lib.hid (hF1.bel hb1)
  have HE1:=Lib.hid ((DvsF.mono (Wide.new (base:=w.heap.size) (v:=.slice (some ⟨w1.heap.size,0,none⟩) 1 1) rfl (Nat.le_refl _)) [a] hv1).up (Keep.below hb1) [a])
  try clear hv
  clear hv1 hP1 hF1 hb1 hsz1
  go_wp2
  have hfew:=HP.out.few
  go_loopg [5] f (fun gk v wr=>∃ (acc:List (DVar)) (flat:List Value) (j:Nat),j ≤ 65536∧acc.length ≤ j + 1∧Hid ((commas E one gk j).bd (fun l m=>.ok (acc ++ l) m)=Rr)∧Hid (wr.ownsRow w.heap.size 108 23 v acc.length flat)∧Hid (DvsF (But w.heap.size v) wr acc flat)∧Hid (Par wr p vl E j)∧Hid (Fp p w wr))
  case atStart=>exact ⟨[a],_,k,Nat.le_trans HP1.out.le HP1.out.few,by simp,HR,HL1,HE1,HP1,HF1⟩
  case round=>
   clear HR HL1 HE1 HP1 HF1 HC HP
   obtain ⟨acc,flat,j,hj,hacc,HR,HL,HE,HP,HF⟩:=hrel
   obtain ⟨W2,rfl⟩:∃ W,W=wr:=⟨wr,rfl⟩
   cases gk with
   | zero=>exact absurd (HR.out.symm.trans commas_zero) HNE.out
   | succ gk=>
    have hb0:Below W2.heap.size W2 (W2.alloc (.cells #[.string ⟨#[44]⟩] 9)):=(Below.refl _ _).alloc (Nat.le_refl _) _
    have HPa:=Lib.hid (HP.out.belowAll hb0)
    have HCm:=Lib.hid (Holds.new W2 9 #[.string ⟨#[44]⟩])
    have HFa:=Lib.hid (HF.out.bel hb0)
    have HLa:=Lib.hid (owns_below HL.out hb0)
    have HEa:=Lib.hid (HE.out.up (Keep.below hb0) acc)
    clear hb0 HP HF HL HE
    cases hs:sees E j [[44]] with
    | false=>
     have HRj:=Lib.hid ((commas_no (g:=gk) (h:=fun l m=>R.ok (acc ++ l) m) hs).symm.trans HR.out)
     have HT:=Lib.hid (takes_no HPa.out [[44]] HCm.out (by simp) hs)
     clear hs
     go_wp2_with (fail)
     refine (HT.out).mono ?_
     rintro e w3 ⟨rfl,hb⟩
     have hPost:Out p vl E w (DvsV (From w.heap.size)) Rr (.returned u5) w3:=by
      rw [← HRj.out]
      refine ⟨_,rfl,⟨flat,?_,?_⟩,HPa.out.belowAll hb,HFa.out.bel hb⟩
      ·have:=RowL.of_owns (P:=From w.heap.size) (owns_below HLa.out hb) (fun k hk=>hk)
       rwa [List.append_nil]
      ·have:=(DvsF.mono Wide.of_but acc HEa.out).up (Keep.below hb) acc
       rwa [List.append_nil]
     have HPost:=Lib.hid hPost
     clear hb hPost HT
     go_wp2
     go_ret
     exact HPost.out
    | true=>
     have HRj:=Lib.hid ((commas_yes (g:=gk) (h:=fun l m=>R.ok (acc ++ l) m) hs).symm.trans HR.out)
     have HT:=Lib.hid (takes_yes HPa.out [[44]] HCm.out (by simp) hs)
     clear hs
     go_wp2_with (fail)
     refine (HT.out).mono ?_
     rintro e w3 ⟨rfl,hP3,hF3⟩
     have HP3:=Lib.hid hP3
     have HL3:=Lib.hid (owns_fp HLa.out hF3 hp1)
     have HE3:=Lib.hid (HEa.out.up (Keep.fp hF3 hp1) acc)
     have HF3:=Lib.hid (HFa.out.trans hF3)
     clear hP3 hF3 HT HPa HLa HEa HFa HCm
     cases h1:one (j + 1) with
     | out=>rw [h1] at HRj;exact absurd HRj.out.symm HNE.out
     | bad c a=>
      have HC':=HO.out.calls HP3.out (by rw [h1];simp)
      rw [h1] at HC' HRj
      have HC:=Lib.hid HC'
      clear h1 HC'
      go_wp2_with (fail)
      refine (HC.out).mono ?_
      rintro e w4 ⟨rfl,hF⟩
      rw [← HRj.out]
      exact ⟨rfl,rfl,HF3.out.trans hF⟩
     | ok a2 k2=>
      have HC':=HO.out.calls HP3.out (by rw [h1];simp)
      have hk2:=HA.out _ _ _ h1
      rw [h1] at HC' HRj
      have HRk:Hid ((commas E one gk k2).bd (fun l m=>.ok ((acc ++ [a2]) ++ l) m)=Rr):=by
       have:=HRj.out
       show _=_
       rw [← this]
       simp only [List.append_assoc,List.singleton_append]
       rfl
      have HC:=Lib.hid HC'
      clear h1 HC' HRj HR
      go_wp2_with (fail)
      refine (HC.out).mono ?_
      rintro e w4 ⟨v4,rfl,hv,hP4,hF4⟩
      obtain ⟨sn,si,sh,sk,sa,en,ei,eh,ek,ea,vf,hv,hs,he,hf⟩:=hv.open_;obtain ⟨sa1,sn1,sc1,sa2,sn2,sc2,sa3,sn3,sc3,sa4,sn4,sc4,sa5,sn5,sc5,rfl,rfl,rfl,rfl,rfl⟩:=hs.forms;obtain ⟨ea1,en1,ec1,ea2,en2,ec2,ea3,en3,ec3,ea4,en4,ec4,ea5,en5,ec5,rfl,rfl,rfl,rfl,rfl⟩:=he.forms;obtain ⟨fa,fc,rfl,_⟩:=hf.form;subst hv;have hv:True:=trivial
      have hv1:DvsF (From w3.heap.size) w4 [a2] #[.string ⟨a2.name.toArray⟩,.bool a2.array,.int .i64 (a2.size.kind:Int),.int .i64 a2.size.n,.string ⟨a2.size.name.toArray⟩,.string ⟨a2.size.label.toArray⟩,.slice sa1 sn1 sc1,.slice sa2 sn2 sc2,.slice sa3 sn3 sc3,.slice sa4 sn4 sc4,.slice sa5 sn5 sc5,.bool a2.init,.int .i64 (a2.e.kind:Int),.int .i64 a2.e.n,.string ⟨a2.e.name.toArray⟩,.string ⟨a2.e.label.toArray⟩,.slice ea1 en1 ec1,.slice ea2 en2 ec2,.slice ea3 en3 ec3,.slice ea4 en4 ec4,.slice ea5 en5 ec5,.bool a2.chan,.slice fa a2.fields.length fc].toList:=(LsF.sing (DvF.mk hs he hf))
      have HP4:=Lib.hid hP4
      have HL4:=Lib.hid (owns_fp HL3.out hF4 hp1)
      have hk65:=Nat.le_trans hP4.le hP4.few
      have hsz:=Nat.le_trans HF3.out.size hF4.size
      have HE4:=Lib.hid (DvsF.append (HE3.out.up (Keep.fp hF4 hp1) acc) (DvsF.mono (Wide.but2 (w:=w4) (wr:=w4) (base:=w.heap.size) HF3.out.size (owns_lt HL3.out)) [a2] hv1))
      have HF4:=Lib.hid (HF3.out.trans hF4)
      try clear hv
      clear hv1 hP4 hF4 HC HP3 HL3 HE3 HF3
      obtain ⟨i0,z0,hi0,hz0,hz1,hz2,hz3⟩:=info_of listDvr_info
      have HLb:=Lib.hid (owns_below HL4.out ((Below.refl w4.heap.size w4).alloc (Nat.le_refl _) (.cells #[.string ⟨a2.name.toArray⟩,.bool a2.array,.int .i64 (a2.size.kind:Int),.int .i64 a2.size.n,.string ⟨a2.size.name.toArray⟩,.string ⟨a2.size.label.toArray⟩,.slice sa1 sn1 sc1,.slice sa2 sn2 sc2,.slice sa3 sn3 sc3,.slice sa4 sn4 sc4,.slice sa5 sn5 sc5,.bool a2.init,.int .i64 (a2.e.kind:Int),.int .i64 a2.e.n,.string ⟨a2.e.name.toArray⟩,.string ⟨a2.e.label.toArray⟩,.slice ea1 en1 ec1,.slice ea2 en2 ec2,.slice ea3 en3 ec3,.slice ea4 en4 ec4,.slice ea5 en5 ec5,.bool a2.chan,.slice fa a2.fields.length fc] 108)))
      go_wp2_with (at_builtin;refine wpList_append_own_at _ rfl (.tmp 12) (.tmp 15) _ rfl w.heap.size 108 i0 z0 23 400 Tryz.underlying48 hi0 hz0 hz1 hz2 hz3 (by omega) _ acc.length flat rfl HLb.out ⟨w4.heap.size,0,none⟩ 1 1 #[.string ⟨a2.name.toArray⟩,.bool a2.array,.int .i64 (a2.size.kind:Int),.int .i64 a2.size.n,.string ⟨a2.size.name.toArray⟩,.string ⟨a2.size.label.toArray⟩,.slice sa1 sn1 sc1,.slice sa2 sn2 sc2,.slice sa3 sn3 sc3,.slice sa4 sn4 sc4,.slice sa5 sn5 sc5,.bool a2.init,.int .i64 (a2.e.kind:Int),.int .i64 a2.e.n,.string ⟨a2.e.name.toArray⟩,.string ⟨a2.e.label.toArray⟩,.slice ea1 en1 ec1,.slice ea2 en2 ec2,.slice ea3 en3 ec3,.slice ea4 en4 ec4,.slice ea5 en5 ec5,.bool a2.chan,.slice fa a2.fields.length fc].toList rfl rfl ?c1 ?c2 ?c3 ?c4 ?c5 ?_)
      case c2=>simp [Value.oneCell']
      case c3=>unfold maxLen;omega
      case c4=>omega
      case c5=>have:=hsz;simp;omega
      intro v' w5 hown5 hgrow _ hat
      have hb4:Below w4.heap.size w4 (w4.alloc (.cells #[.string ⟨a2.name.toArray⟩,.bool a2.array,.int .i64 (a2.size.kind:Int),.int .i64 a2.size.n,.string ⟨a2.size.name.toArray⟩,.string ⟨a2.size.label.toArray⟩,.slice sa1 sn1 sc1,.slice sa2 sn2 sc2,.slice sa3 sn3 sc3,.slice sa4 sn4 sc4,.slice sa5 sn5 sc5,.bool a2.init,.int .i64 (a2.e.kind:Int),.int .i64 a2.e.n,.string ⟨a2.e.name.toArray⟩,.string ⟨a2.e.label.toArray⟩,.slice ea1 en1 ec1,.slice ea2 en2 ec2,.slice ea3 en3 ec3,.slice ea4 en4 ec4,.slice ea5 en5 ec5,.bool a2.chan,.slice fa a2.fields.length fc] 108)):=(Below.refl _ _).alloc (Nat.le_refl _) _
      have hat':v'.ownBlock=u5.ownBlock∨v'.ownBlock=some (w4.alloc (.cells #[.string ⟨a2.name.toArray⟩,.bool a2.array,.int .i64 (a2.size.kind:Int),.int .i64 a2.size.n,.string ⟨a2.size.name.toArray⟩,.string ⟨a2.size.label.toArray⟩,.slice sa1 sn1 sc1,.slice sa2 sn2 sc2,.slice sa3 sn3 sc3,.slice sa4 sn4 sc4,.slice sa5 sn5 sc5,.bool a2.init,.int .i64 (a2.e.kind:Int),.int .i64 a2.e.n,.string ⟨a2.e.name.toArray⟩,.string ⟨a2.e.label.toArray⟩,.slice ea1 en1 ec1,.slice ea2 en2 ec2,.slice ea3 en3 ec3,.slice ea4 en4 ec4,.slice ea5 en5 ec5,.bool a2.chan,.slice fa a2.fields.length fc] 108)).heap.size:=by simpa using hat
      have HP5:=Lib.hid ((HP4.out.belowAll hb4).grown hgrow (fun g e=>by have:=owns_ge HL4.out g e;omega))
      have HF5:=Lib.hid ((HF4.out.bel hb4).grown hgrow (fun g e=>owns_ge HL4.out g e))
      have HE5:=Lib.hid ((DvsF.mono (Wide.out (w':=w5) hat') (acc ++ [a2]) ((DvsF.mono Wide.in_ (acc ++ [a2]) (HE4.out.up (Keep.below hb4) (acc ++ [a2]))).up ((Keep.grown (base:=w.heap.size) hgrow).imp fun k hk=>hk.1) (acc ++ [a2]))))
      have HL5:Hid (w5.ownsRow w.heap.size 108 23 v' (acc ++ [a2]).length (flat ++ #[.string ⟨a2.name.toArray⟩,.bool a2.array,.int .i64 (a2.size.kind:Int),.int .i64 a2.size.n,.string ⟨a2.size.name.toArray⟩,.string ⟨a2.size.label.toArray⟩,.slice sa1 sn1 sc1,.slice sa2 sn2 sc2,.slice sa3 sn3 sc3,.slice sa4 sn4 sc4,.slice sa5 sn5 sc5,.bool a2.init,.int .i64 (a2.e.kind:Int),.int .i64 a2.e.n,.string ⟨a2.e.name.toArray⟩,.string ⟨a2.e.label.toArray⟩,.slice ea1 en1 ec1,.slice ea2 en2 ec2,.slice ea3 en3 ec3,.slice ea4 en4 ec4,.slice ea5 en5 ec5,.bool a2.chan,.slice fa a2.fields.length fc].toList)):=by
       show World.ownsRow _ _ _ _ _ _ _
       rw [List.length_append]
       exact hown5
      clear hb4 hat hat' hgrow hown5 HLb HE4 HL4 HP4 HF4
      go_wp2
      go_roundg gk
      case measure=>omega
      case rel=>exact ⟨acc ++ [a2],_,k2,hk65,by rw [List.length_append,List.length_singleton];omega,HRk,HL5,HE5,HP5,HF5⟩
end Go.Proofs.YtpoghableadkcaaGreatDoor
end
section
/- Loads and stores of whole things in a box, by one law each. -/
namespace Go.Proofs.YtpoghableadkcaaGreatDoor
open Go.RowKit
set_option linter.unusedVariables false

theorem bd_ok {A B:Type} {a:A} {j:Nat} {f:A→Nat→R B}:(R.ok a j).bd f=f a j:=rfl
theorem setR_eq (b:Nat):∀ (xs:List Value) (i:Nat) (W:World),W.setCells b i xs=setR W b i xs
 | [],_,_=>rfl
 | x :: r,i,W=>setR_eq b r (i + 1) _
theorem putR_from:∀ (xs:List Value) (i:Nat) (cs:List Value),i + xs.length=cs.length→putR cs i xs=cs.take i ++ xs
 | [],i,cs,h=>by rw [putR,List.append_nil,List.take_of_length_le (by simp at h;omega)]
 | x :: r,i,cs,h=>by
  rw [putR,putR_from r (i + 1) (cs.set i x) (by simp at h ⊢;omega)]
  have hi:i < cs.length:=by simp at h;omega
  rw [List.take_set,List.take_add_one,List.getElem?_eq_getElem hi]
  simp only [Option.toList]
  rw [List.set_append_right _ _ (by simp;omega)]
  simp [Nat.min_eq_left (Nat.le_of_lt hi)]
theorem putR_mid:∀ (xs:List Value) (i:Nat) (cs:List Value),i + xs.length ≤ cs.length→putR cs i xs=cs.take i ++ (xs ++ cs.drop (i + xs.length))
 | [],i,cs,h=>by rw [putR,List.nil_append,List.length_nil,Nat.add_zero,List.take_append_drop]
 | x :: r,i,cs,h=>by
  rw [putR,putR_mid r (i + 1) (cs.set i x) (by simp at h ⊢;omega)]
  have hi:i < cs.length:=by simp at h;omega
  rw [List.take_set,List.take_add_one,List.getElem?_eq_getElem hi]
  simp only [Option.toList]
  rw [List.set_append_right _ _ (by simp;omega),List.drop_set_of_lt (by omega)]
  simp [Nat.min_eq_left (Nat.le_of_lt hi),show i + 1 + r.length=i + (r.length + 1) by omega]
/-- A box behind a store. -/
theorem Holds.stored {W W':World} {b i:Nat} {t:TypeId} {cs xs:List Value} (h:Holds W b t cs) (hW:W'=Go.Proofs.YtpoghableadkcaaGreatDoor.setR W b i xs) (hl:i + xs.length ≤ cs.length):Holds W' b t (cs.take i ++ (xs ++ cs.drop (i + xs.length))):=by
 rw [← putR_mid xs i cs hl,hW];exact Holds.setR xs i h
theorem putR_all {xs cs:List Value} (h:cs.length=xs.length):putR cs 0 xs=xs:=by
 have:=putR_from xs 0 cs (by omega)
 simpa using this
section
variable {P:Program} {W:World} {b i n:Nat} {t ty:TypeId} {cs xs:List Value}
/-- A thing that lies in a box is read. -/
theorem loadN (h:Holds W b t cs) (hx:(cs.drop i).take n=xs) (d:TypeDesc) (hu:P.underlying ty=some d) (hd:d.isRow=true) (hi:(P.info? ty).map (·.size)=some xs.length):
  (Instr.loadAt ty (.pointer (some ⟨b,i,none⟩))).run P W=.ok (.agg xs.toArray) W:=
 run_loadAt_mid W b i ty xs d (fun j v hj=>by
  rw [h.cell]
  subst hx
  have hl:j < n:=by
   have:=(List.getElem?_eq_some_iff.1 hj).1
   rw [List.length_take] at this
   omega
  rw [List.getElem?_take_of_lt hl,List.getElem?_drop] at hj
  exact hj) hu hd hi
/-- A thing is stored in a box. -/
theorem storeN (h:Holds W b t cs) (hl:i + xs.length ≤ cs.length) (hi:(P.info? ty).map (·.size)=some xs.length) (h1:xs.all (·.oneCell')=true):
  (Instr.storeAt ty (.pointer (some ⟨b,i,none⟩)) (.agg xs.toArray)).run P W=.ok () (setR W b i xs):=by
 rw [← setR_eq]
 have:=run_storeAt_mid (P:=P) W b i ty xs.toArray (fun j hj=>⟨by rw [h.cell,List.getElem?_eq_getElem (by simp at hj;omega)];rfl,h.free _⟩) (by simpa using hi) (by simpa using h1)
 simpa using this
/-- One cell is stored. -/
theorem store1 {v:Value} (h:Holds W b t cs) (hl:i < cs.length) (hi:(P.info? ty).map (·.size)=some 1) (hv:v.cells=#[v]) (h1:v.oneCell'=true):
  (Instr.storeAt ty (.pointer (some ⟨b,i,none⟩)) v).run P W=.ok () (W.setCell ⟨b,i,none⟩ v):=by
 have:=run_storeCells_cells (P:=P) b i [v] 0 W (fun j hj=>by rw [h.cell,List.getElem?_eq_getElem (by simp at hj;omega)];rfl) (fun j hj=>h.free _) (fun u hu=>by simp at hu;rw [hu];exact h1)
 cases hq:P.info? ty with
 | none=>simp [hq] at hi
 | some k=>
  have hs:k.size=1:=by simpa [hq] using hi
  simp only [Nat.add_zero] at this
  simp [Instr.storeAt,Instr.sureAddr,storeVar,sizeOf,typeInfo,hq,hv,hs,this,World.setCells]
end
/-- What a function hands back out of a box. -/
theorem outBox {P:Program} {fn:Func} {s:Nat} {tmps:Array Value} {W:World} {b:Nat} {t ty:TypeId} {cs:List Value} (hf:fn.results=#[.cell s ty]) (h:Holds W b t cs) (hs:tmps[s]?.getD undef=.pointer (some ⟨b,0,none⟩))
  (d:TypeDesc) (hu:P.underlying ty=some d) (hd:d.isRow=true) (hi:(P.info? ty).map (·.size)=some cs.length):(results fn tmps).run P W=.ok (.agg cs.toArray) W:=by
 have hl:=run_loadVar_mid (P:=P) W b 0 ty cs d (fun j v hj=>by rw [Nat.zero_add,h.cell];exact hj) hu hd hi
 simp [results,hf,hs,asAddr,hl]
theorem Holds.range {W:World} {b i n:Nat} {t:TypeId} {cs xs:List Value} (h:Holds W b t cs) (hx:(cs.drop i).take n=xs):W.rangeAt b i xs:=fun j v hj=>by
 rw [h.cell]
 subst hx
 have hl:j < n:=by
  have:=(List.getElem?_eq_some_iff.1 hj).1
  rw [List.length_take] at this
  omega
 rw [List.getElem?_take_of_lt hl,List.getElem?_drop] at hj
 exact hj
section
variable {P:Program} {W:World} {ops:Array Oper} {rest:List Oper} {o:Oper} {a:Act} {Q:Exit→Act→World→Prop} {t:TypeId} {cs:List Value}
/-- The walk stands still here: the world gets a name. -/
def Named (W:World) (F:World→Prop):Prop:=∀ w',w'=W→F w'
theorem Named.mk {W:World} {F:World→Prop} (h:∀ w',w'=W→F w'):Named W F:=h
/-- A thing is stored in a box: the world behind it has a name. -/
theorem wpList_storeB (hgd:o.guard=none) (ty:TypeId) (x y:Operand) (ho:o.op=.store ty x y) (b i:Nat) (xs:List Value) (hx:a.eval x=.pointer (some ⟨b,i,none⟩)) (hy:a.eval y=.agg xs.toArray)
  (h:Holds W b t cs) (hl:i + xs.length ≤ cs.length) (hi:(P.info? ty).map (·.size)=some xs.length) (h1:xs.all (·.oneCell')=true)
  (hk:Named (setR W b i xs) fun w'=>wpList P ops Q rest (a.put o.dst undef) w'):wpList P ops Q (o :: rest) a W:=
 wpList_plain hgd fun K hK=>by
  unfold Oper.wp execOp
  simp only [ho,hx,hy,Sem.run_bind,Sem.run_pure,Result.andThen_ok,storeN h hl hi h1]
  exact hK _ _ (hk _ rfl)
theorem wpList_store1 (hgd:o.guard=none) (ty:TypeId) (x y:Operand) (ho:o.op=.store ty x y) (b i:Nat) (v:Value) (hx:a.eval x=.pointer (some ⟨b,i,none⟩)) (hy:a.eval y=v)
  (h:Holds W b t cs) (hl:i < cs.length) (hi:(P.info? ty).map (·.size)=some 1) (hv:v.cells=#[v]) (h1:v.oneCell'=true)
  (hk:Named (setR W b i [v]) fun w'=>wpList P ops Q rest (a.put o.dst undef) w'):wpList P ops Q (o :: rest) a W:=
 wpList_plain hgd fun K hK=>by
  unfold Oper.wp execOp
  simp only [ho,hx,hy,Sem.run_bind,Sem.run_pure,Result.andThen_ok,store1 h hl hi hv h1]
  exact hK _ _ (hk _ rfl)
end
theorem sz_bool:(Tryz.prog.info? 4).map (·.size)=some 1:=by kernel_rfl
theorem sz_int:(Tryz.prog.info? 3).map (·.size)=some 1:=by kernel_rfl
theorem sz_string:(Tryz.prog.info? 9).map (·.size)=some 1:=by kernel_rfl
theorem sz_Ast:(Tryz.prog.info? 41).map (·.size)=some 9:=by kernel_rfl
theorem sz_Arg:(Tryz.prog.info? 116).map (·.size)=some 11:=by kernel_rfl
theorem sz_Ref:(Tryz.prog.info? 38).map (·.size)=some 3:=by kernel_rfl
theorem sz_DVar:(Tryz.prog.info? 108).map (·.size)=some 23:=by kernel_rfl
theorem sz_Dcl:(Tryz.prog.info? 50).map (·.size)=some 4:=by kernel_rfl
theorem sz_Stm:(Tryz.prog.info? 57).map (·.size)=some 28:=by kernel_rfl
theorem sz_Unt:(Tryz.prog.info? 54).map (·.size)=some 21:=by kernel_rfl
theorem sz_Ints:(Tryz.prog.info? 46).map (·.size)=some 1:=by kernel_rfl
theorem sz_Strs:(Tryz.prog.info? 34).map (·.size)=some 1:=by kernel_rfl
theorem sz_Asts:(Tryz.prog.info? 35).map (·.size)=some 1:=by kernel_rfl
theorem sz_Args:(Tryz.prog.info? 39).map (·.size)=some 1:=by kernel_rfl
theorem sz_DVars:(Tryz.prog.info? 48).map (·.size)=some 1:=by kernel_rfl
theorem sz_Dcls:(Tryz.prog.info? 51).map (·.size)=some 1:=by kernel_rfl
theorem sz_Stms:(Tryz.prog.info? 52).map (·.size)=some 1:=by kernel_rfl
theorem sz_Opts:(Tryz.prog.info? 55).map (·.size)=some 1:=by kernel_rfl
theorem sz_Unts:(Tryz.prog.info? 23).map (·.size)=some 1:=by kernel_rfl
end Go.Proofs.YtpoghableadkcaaGreatDoor
end
