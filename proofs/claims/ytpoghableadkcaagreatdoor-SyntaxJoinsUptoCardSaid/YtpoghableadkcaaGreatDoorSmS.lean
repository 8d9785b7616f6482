/- Words that stand in a longer row of words, a semicolon or nothing behind them, are read as the same statements, places aside. -/
import Derived.Test.YtpoghableadkcaaGreatDoorM10
import Derived.Test.YtpoghableadkcaaGreatDoorM14
namespace Go.Proofs.YtpoghableadkcaaGreatDoor
set_option linter.unusedVariables false
set_option linter.unusedSimpArgs false

mutual
/-- Places aside. -/
def erS:Stm→Stm
 | .mk k _ nm tx n so ra ke rf e es ar d op bo=>.mk k 0 nm tx n so ra ke rf e es ar { d with at_:=0 } (erO op) (erL bo)
def erL:List Stm→List Stm
 | []=>[]
 | s :: l=>erS s :: erL l
def erO:List (List Stm)→List (List Stm)
 | []=>[]
 | l :: r=>erL l :: erO r
end
def erD (d:Dcl):Dcl:={ d with at_:=0 }
def erU (u:Unt):Unt:={ u with at_:=0,decl:=erD u.decl,decls:=u.decls.map erD,body:=erL u.body }

/-- What is read here is read there,places aside. -/
def Sq {A:Type} (d:Nat) (er:A→A) (r r':R A):Prop:=∀ a j,r=.ok a j→∃ a',r'=.ok a' (j + d)∧er a'=er a
section
variable {A B:Type} {E E':Env} {d:Nat} {er:A→A} {er2:B→B} {r r':R A}
theorem Sq.bd {f f':A→Nat→R B} (h:Sq d er r r') (k:∀ a a' j,r=.ok a j→er a'=er a→Sq d er2 (f a j) (f' a' (j + d))):Sq d er2 (r.bd f) (r'.bd f'):=by
 intro b m hb
 cases r with
 | out=>cases hb
 | bad c a=>cases hb
 | ok a j=>
  obtain ⟨a',h1,h2⟩:=h a j rfl
  rw [h1]
  exact k a a' j rfl h2 b m hb
theorem Sm.bdq {f f':A→Nat→R B} (h:Sm d r r') (k:∀ a j,r=.ok a j→Sq d er2 (f a j) (f' a (j + d))):Sq d er2 (r.bd f) (r'.bd f'):=by
 intro b m hb
 cases r with
 | out=>cases hb
 | bad c a=>cases hb
 | ok a j=>rw [h a j rfl];exact k a j rfl b m hb
theorem Sq.ok {a a':A} {j j':Nat} (h:er a'=er a) (hj:j'=j + d):Sq d er (.ok a j) (.ok a' j'):=by
 intro b m hb
 injection hb with h1 h2
 subst h1 h2 hj
 exact ⟨a',rfl,h⟩
theorem Sq.wrong {i:Nat}:Sq d er (wrong E i) r':=by rw [wrong_eq];exact fun _ _ h=>by cases h
theorem Sq.ite {c c':Prop} [Decidable c] [Decidable c'] {x y x' y':R A} (hc:c' ↔ c) (hx:c→Sq d er x x') (hy:¬ c→Sq d er y y'):Sq d er (if c then x else y) (if c' then x' else y'):=by
 by_cases h:c
 ·rw [if_pos h,if_pos (hc.2 h)];exact hx h
 ·rw [if_neg h,if_neg (fun h'=>h (hc.1 h'))];exact hy h
theorem Sq.none (h:∀ a j,r ≠ .ok a j):Sq d er r r':=fun a j e=>absurd e (h a j)
end

/-- The words of E,and its text,stand in E'. -/
structure SimS (E E':Env) (d c:Nat):Prop where
 sim:Sim E E' d [59]
 place:∀ i,i < E.L.length→placeAt E' (i + d)=placeAt E i + c
 top:∀ i,i < E.L.length→placeAt E i ≤ E.S.length
 text:∀ m k,k ≤ E.S.length→(E'.S.take (k + c)).drop (m + c)=(E.S.take k).drop m

section
variable {E E':Env} {d c:Nat}
theorem simKindOf (S:Sim E E' d [59]) {i:Nat} (h:i ≤ E.L.length):kindOf E' (i + d)=Go.Proofs.YtpoghableadkcaaGreatDoor.kindOf E i:=by
 by_cases h':i < E.L.length
 ·obtain ⟨h1,h2,_⟩:=S.tok i h'
  unfold Go.Proofs.YtpoghableadkcaaGreatDoor.kindOf
  rw [h1,h2]
 ·obtain rfl:i=E.L.length:=by omega
  unfold Go.Proofs.YtpoghableadkcaaGreatDoor.kindOf
  rw [kind_end (E:=E) (Nat.le_refl _)]
  rcases S.stop with h1 | ⟨h1,h2⟩
  ·rw [h1];rfl
  ·rw [h1,h2,if_neg (show ¬ (0:Nat)=4 by decide)];decide
theorem simField (S:Sim E E' d [59]) {i:Nat} (h:i ≤ E.L.length):Sm d (field E i) (field E' (i + d)):=by
 unfold Go.Proofs.YtpoghableadkcaaGreatDoor.field
 rw [simKindOf S h]
 exact Sm.ite Iff.rfl (fun _=>Sm.wrong) fun _=>Sm.ok' rfl (by omega)
theorem simExpr (S:Sim E E' d [59]) {f l i:Nat} (h:i ≤ E.L.length):Sm d (expr E f l i) (expr E' f l (i + d)):=(simE S ends_semi f).expr l i h
theorem simIvar (S:Sim E E' d [59]) {f i:Nat}:Sm d (ivar E f i) (ivar E' f (i + d)):=by
 unfold Go.Proofs.YtpoghableadkcaaGreatDoor.ivar
 refine Sm.bd (S.pid _) fun n j hj=>Sm.bd ?_ fun p k hk=>?_
 ·have h1:=(pid_top hj).1
  refine Sm.ite (by rw [S.sees h1 (by decide)]) (fun hs=>?_) fun _=>Sm.ok
  rw [show j + d + 1=j + 1 + d by omega]
  exact Sm.bd (simExpr S (sees_lt hs)) fun a k hk=>Sm.bd (S.need _ _) fun u m hm=>Sm.ok
 ·have h1:=(pid_top hj).1
  have h2:k ≤ E.L.length:=by
   refine Tp.ite (c:=sees E j [[91]]=true) (E:=E) (fun h=>?_) (fun _=>Tp.ok h1) _ _ hk
   exact Tp.bd fun a k hk=>Tp.bd fun u m hm=>Tp.ok (need_top hm).1
  refine Sm.ite (by rw [S.sees h2 (by decide)]) (fun hs=>?_) fun _=>Sm.ok
  have h3:=sees_lt hs
  rw [show k + d + 1=k + 1 + d by omega,show k + d + 2=k + 2 + d by omega]
  refine Sm.ite (by rw [S.sees h3 (by decide)]) (fun hs2=>?_) fun _=>Sm.bd (simExpr S h3) fun e m hm=>Sm.ok
  exact Sm.bd (simExpr S (sees_lt hs2)) fun e m hm=>Sm.bd (S.need _ _) fun _ m hm=>Sm.bd (S.need _ _) fun _ m hm=>Sm.bd (S.need _ _) fun _ m hm=>
   Sm.bd (S.many (by decide) (fun i hi=>simField S hi) (fun i a k h=>(field_adv i a k h).2) _ _ (need_top hm).1) fun l m hm=>Sm.bd (S.need _ _) fun _ m hm=>Sm.ok
theorem simDecl (S:SimS E E' d c) {f i:Nat} (h:i ≤ E.L.length):Sq d erD (decl E f i) (decl E' f (i + d)):=by
 have S':=S.sim
 unfold Go.Proofs.YtpoghableadkcaaGreatDoor.decl
 rw [simKindOf S' h]
 have iv:∀ i a k,ivar E f i=.ok a k→k ≤ E.L.length:=fun i a k h=>(ivar_adv i a k h).2
 refine Sq.ite Iff.rfl (fun hk=>?_) fun _=>?_
 ·have hlt:i < E.L.length:=kind_lt (E:=E) (fun h0=>by unfold kindOf at hk;rw [if_neg (by omega)] at hk;omega)
  rw [show i + d + 1=i + 1 + d by omega]
  exact Sm.bdq (S'.many (by decide) (fun i hi=>simIvar S') iv _ _ hlt) fun l j hj=>Sq.ok rfl rfl
 ·exact Sm.bdq (S'.pid _) fun n j hj=>Sm.bdq (S'.many (by decide) (fun i hi=>simIvar S') iv _ _ (pid_top hj).1) fun l k hk=>Sq.ok rfl rfl
theorem simSemis (S:Sim E E' d [59]):∀ (g g' j:Nat),g ≤ g'→E.L.length < j + g→semis E g j < E.L.length→semis E' g' (j + d)=Go.Proofs.YtpoghableadkcaaGreatDoor.semis E g j + d
 | 0,g',j,h1,h2,h3=>by rw [Go.Proofs.YtpoghableadkcaaGreatDoor.semis] at h3;omega
 | g + 1,0,j,h1,h2,h3=>by omega
 | g + 1,g' + 1,j,h1,h2,h3=>by
  have hj:=Nat.lt_of_le_of_lt (semis_ge (E:=E) (g + 1) j) h3
  rw [Go.Proofs.YtpoghableadkcaaGreatDoor.semis] at h3 ⊢
  rw [Go.Proofs.YtpoghableadkcaaGreatDoor.semis,S.seesLt (by omega)]
  cases hs:sees E j [[59]] with
  | true=>
   rw [hs,if_pos rfl] at h3
   rw [if_pos rfl,if_pos rfl,show j + d + 1=j + 1 + d by omega]
   exact simSemis S g g' (j + 1) (by omega) (by omega) h3
  | false=>rw [if_neg (by decide),if_neg (by decide)]
theorem simSeps (S:Sim E E' d [59]):∀ (g g' j:Nat),g ≤ g'→E.L.length < j + g→seps E g j < E.L.length→seps E' g' (j + d)=Go.Proofs.YtpoghableadkcaaGreatDoor.seps E g j + d
 | 0,g',j,h1,h2,h3=>by rw [Go.Proofs.YtpoghableadkcaaGreatDoor.seps] at h3;omega
 | g + 1,0,j,h1,h2,h3=>by omega
 | g + 1,g' + 1,j,h1,h2,h3=>by
  have hj:=Nat.lt_of_le_of_lt (seps_ge (E:=E) (g + 1) j) h3
  rw [Go.Proofs.YtpoghableadkcaaGreatDoor.seps] at h3 ⊢
  rw [Go.Proofs.YtpoghableadkcaaGreatDoor.seps,S.seesLt (by omega)]
  cases hs:sees E j [[59],[45,62]] with
  | true=>
   rw [hs,if_pos rfl] at h3
   rw [if_pos rfl,if_pos rfl,show j + d + 1=j + 1 + d by omega]
   exact simSeps S g g' (j + 1) (by omega) (by omega) h3
  | false=>rw [if_neg (by decide),if_neg (by decide)]
/-- Declarations,where they end within. -/
theorem simDecls (S:SimS E E' d c) {f:Nat} {stop:Bs}:∀ (g i:Nat) (l:List Dcl) (j:Nat),i ≤ E.L.length→decls E f stop g i=.ok l j→j < E.L.length→∃ l',decls E' f stop g (i + d)=.ok l' (j + d)∧l'.map erD=l.map erD
 | 0,i,l,j,hi,h,hj=>by rw [Go.Proofs.YtpoghableadkcaaGreatDoor.decls] at h;cases h
 | g + 1,i,l,j,hi,h,hj=>by
  have hl:=S.sim.len
  rw [Go.Proofs.YtpoghableadkcaaGreatDoor.decls] at h ⊢
  cases h1:decl E f i with
  | out=>rw [h1] at h;cases h
  | bad c a=>rw [h1] at h;cases h
  | ok x k=>
   rw [h1] at h
   obtain ⟨x',h2,h3⟩:=simDecl S hi x k h1
   have hk:=decl_adv _ _ _ h1
   rw [h2]
   simp only [R.bd] at h ⊢
   have hJ:semis E E.L.length k < E.L.length:=by
    split at h
    ·injection h with _ h;omega
    ·cases hd:decls E f stop g (semis E E.L.length k) with
     | out=>rw [hd] at h;cases h
     | bad c a=>rw [hd] at h;cases h
     | ok l2 j2=>
      rw [hd] at h
      injection h with _ h
      have:=Bt.decls _ _ _ _ hd
      omega
   have hkJ:=semis_ge (E:=E) E.L.length k
   rw [simSemis S.sim E.L.length E'.L.length k (by omega) (by omega) hJ,S.sim.seesLt hJ,S.sim.seesLt (by omega)]
   by_cases hc:(!sees E k [[59]] || sees E (semis E E.L.length k) [stop])=true
   ·rw [if_pos hc] at h ⊢
    injection h with h4 h5
    subst h4 h5
    exact ⟨[x'],rfl,by simp [h3]⟩
   ·rw [if_neg hc] at h ⊢
    cases hd:decls E f stop g (semis E E.L.length k) with
    | out=>rw [hd] at h;cases h
    | bad c a=>rw [hd] at h;cases h
    | ok l2 j2=>
     rw [hd] at h
     injection h with h4 h5
     subst h4 h5
     obtain ⟨l3,h6,h7⟩:=simDecls S g _ l2 j2 (by omega) hd hj
     rw [h6]
     exact ⟨x' :: l3,rfl,by simp [h3,h7]⟩
theorem simSimple (S:SimS E E' d c) {f a a' i:Nat} (h:i ≤ E.L.length):Sq d erS (simple E f a i) (simple E' f a' (i + d)):=by
 have S':=S.sim
 have ad:=advE E f
 have tp:=topE E f
 have ie:=simE S' ends_semi f
 have hp:Sq d erS ((expr E f 0 i).bd fun e j=>R.ok (Stm.e1 2 a e) j) ((expr E' f 0 (i + d)).bd fun e j=>R.ok (Stm.e1 2 a' e) j):=Sm.bdq (simExpr S' h) fun e j hj=>Sq.ok rfl rfl
 unfold Go.Proofs.YtpoghableadkcaaGreatDoor.simple
 refine Sq.ite (S'.kind h (by decide) (by decide)) (fun _=>Sm.bdq (ie.ref i h) fun r j hj=>?_) fun _=>hp
 have h1:=tp.ref _ _ _ hj
 have e1:∀ {l:List Bs},sees E j l=true→j + d + 1=j + 1 + d:=fun _=>by omega
 rw [show j + d + 1=j + 1 + d by omega,show j + d + 2=j + 2 + d by omega]
 refine Sq.ite (by rw [S'.sees h1 (by decide)]) (fun hs=>Sm.bdq (simExpr S' (sees_lt hs)) fun e k hk=>Sq.ok rfl rfl) fun _=>Sq.ite (by rw [S'.sees h1 (by decide)]) (fun hs=>Sq.ok rfl rfl) fun _=>Sq.ite (by rw [S'.sees h1 (by decide)]) (fun hs=>Sq.ok rfl rfl) fun _=>Sq.ite (by rw [S'.sees h1 (by decide)]) (fun hs=>?_) fun _=>Sq.ite ?_ (fun hs=>?_) fun _=>hp
 ·rw [S'.seesLt (sees_lt hs)]
  exact Sm.bdq (S'.message (by decide) (by decide) (fun k hk=>ie.expr 0 _ hk) (fun k=>tp.expr 0 k) _ _ (sees_lt hs)) fun l k hk=>Sq.ok rfl rfl
 ·rw [S'.sees h1 (by decide)]
  cases hq:sees E j [[63],[63,63]] with
  | false=>simp
  | true=>rw [S'.sees (sees_lt hq) (by decide)]
 ·simp only [Bool.and_eq_true] at hs
  have h2:=sees_lt hs.1
  rw [S'.seesLt h2,S'.sees h2 (by decide)]
  refine Sq.ite Iff.rfl (fun h3=>?_) fun _=>?_
  ·exact Sm.bdq (S'.message (by decide) (by decide) (fun k hk=>ie.arg _ hk) (fun k=>tp.arg k) _ _ (sees_lt h3)) fun l k hk=>Sm.bdq (S'.need _ _) fun u m hm=>Sq.ok rfl rfl
  ·exact Sm.bdq (S'.message (by decide) (by decide) (fun k hk=>ie.arg _ hk) (fun k=>tp.arg k) _ _ h2) fun l k hk=>Sq.ok rfl rfl

structure SqS (E E':Env) (d f:Nat):Prop where
 stmt:∀ i,i ≤ E.L.length→Sq d erS (stmt E f i) (stmt E' f (i + d))
 body:∀ i,i ≤ E.L.length→Sq d erL (body E f i) (body E' f (i + d))
 sequence:∀ i,i ≤ E.L.length→Sq d erL (sequence E f i) (sequence E' f (i + d))
 step:∀ i,i ≤ E.L.length→Sq d erS (step E f i) (step E' f (i + d))
 options:∀ stop i,stop ≠ [59]→i ≤ E.L.length→Sq d erO (options E f stop i) (options E' f stop (i + d))
theorem sqS (S:SimS E E' d c):∀ f,SqS E E' d f
 | 0=>by constructor <;> intros <;> refine Sq.none fun a j h=>?_ <;> simp [Go.Proofs.YtpoghableadkcaaGreatDoor.stmt,Go.Proofs.YtpoghableadkcaaGreatDoor.body,Go.Proofs.YtpoghableadkcaaGreatDoor.sequence,Go.Proofs.YtpoghableadkcaaGreatDoor.step,Go.Proofs.YtpoghableadkcaaGreatDoor.options] at h
 | f + 1=>by
  have ih:=sqS S f
  have S':=S.sim
  have bt:=btS E f
  have ie:=simE S' ends_semi f
  have tp:=topE E f
  have pe:∀ i a k,Go.Proofs.YtpoghableadkcaaGreatDoor.expr E f 0 i=.ok a k→i < k∧k ≤ E.L.length:=fun i a k h=>⟨(advE E f).expr h,tp.expr _ _ _ _ h⟩
  have tx:∀ {i},i < E.L.length→textAt E' (i + d)=textAt E i:=fun h=>(S'.tok _ h).2.1
  constructor
  ·intro i hi
   rw [Go.Proofs.YtpoghableadkcaaGreatDoor.stmt,Go.Proofs.YtpoghableadkcaaGreatDoor.stmt,show i + d + 1=i + 1 + d by omega,show i + d + 2=i + 2 + d by omega]
   have g2:∀ l:List Bs,l.contains [59]=false→((decide (kindAt E' (i + d)=1) && sees E' (i + 1 + d) l)=true ↔ (decide (kindAt E i=1) && sees E (i + 1) l)=true):=by
    intro l hl
    by_cases hk:kindAt E i=1
    ·have hlt:i < E.L.length:=kind_lt (E:=E) (by omega)
     rw [S'.sees hlt hl,decide_eq_true hk,decide_eq_true ((S'.kind hi (by decide) (by decide)).2 hk)]
    ·rw [decide_eq_false hk,decide_eq_false (fun h=>hk ((S'.kind hi (by decide) (by decide)).1 h))];simp
   refine Sq.ite (g2 _ (by decide)) (fun h=>?_) fun _=>Sq.ite (by rw [S'.sees hi (by decide)]) (fun h=>Sq.bd (ih.body _ hi) fun s s' j hj e=>Sq.ok (by simp only [Stm.bod,erS,erO,e]) rfl) fun _=>Sq.ite (by rw [S'.sees hi (by decide)]) (fun h=>Sq.bd (ih.body _ (sees_lt h)) fun s s' j hj e=>Sq.ok (by simp only [Stm.bod,erS,erO,e]) rfl) fun _=>Sq.ite (by rw [S'.sees hi (by decide)]) (fun h=>Sq.bd (ih.body _ (sees_lt h)) fun s s' j hj e=>Sq.ok (by simp only [Stm.bod,erS,erO,e]) rfl) fun _=>Sq.ite (by rw [S'.sees hi (by decide)]) (fun h=>Sq.bd (ih.options _ _ (by decide) (sees_lt h)) fun s s' j hj e=>Sq.ok (by simp only [Stm.opt,erS,erL,e]) rfl) fun _=>Sq.ite (by rw [S'.sees hi (by decide)]) (fun h=>Sq.bd (ih.options _ _ (by decide) (sees_lt h)) fun s s' j hj e=>Sq.ok (by simp only [Stm.opt,erS,erL,e]) rfl) fun _=>Sq.ite (by rw [S'.sees hi (by decide)]) (fun h=>Sq.ok rfl rfl) fun _=>Sq.ite (by rw [S'.sees hi (by decide)]) (fun h=>Sq.ok rfl rfl) fun _=>Sq.ite (by rw [S'.sees hi (by decide)]) (fun h=>Sq.ok rfl rfl) fun _=>Sq.ite (by rw [S'.sees hi (by decide)]) (fun h=>Sm.bdq (S'.pid _) fun n j hj=>Sq.ok rfl rfl) fun _=>Sq.ite (by rw [S'.sees hi (by decide)]) (fun h=>Sm.bdq (S'.need _ _) fun u j hj=>Sm.bdq (ie.expr 0 _ (need_top hj).1) fun e k hk=>Sm.bdq (S'.need _ _) fun u m hm=>Sq.ok rfl rfl) fun _=>Sq.ite (by rw [S'.sees hi (by decide)]) (fun h=>Sm.bdq (S'.need _ _) fun u j hj=>Sq.ite (S'.kind (need_top hj).1 (by decide) (by decide)) (fun h3=>?_) fun _=>Sq.wrong) fun _=>Sq.ite (g2 _ (by decide)) (fun h=>?_) fun _=>simSimple S hi
   ·simp only [Bool.and_eq_true,decide_eq_true_eq] at h
    have h1:=sees_lt h.2
    rw [tx (by omega)]
    exact Sq.bd (ih.stmt _ h1) fun s s' j hj e=>Sq.ok (by simp only [Stm.bod,erS,erL,erO,e]) rfl
   ·have hlt:j < E.L.length:=kind_lt (E:=E) (by omega)
    rw [tx hlt,show j + d + 1=j + 1 + d by omega,show j + d + 2=j + 2 + d by omega]
    refine Sm.bdq (Sm.ite (by rw [S'.sees hlt (by decide)]) (fun hs=>S'.many (by decide) (fun k hk=>ie.expr 0 _ hk) (fun k=>tp.expr 0 k) _ _ (sees_lt hs)) fun _=>Sm.ok) fun l k hk=>Sm.bdq (S'.need _ _) fun u m hm=>Sq.ok rfl rfl
   ·simp only [Bool.and_eq_true,decide_eq_true_eq] at h
    have h1:=sees_lt h.2
    rw [tx (by omega)]
    exact Sm.bdq (S'.within (by decide) (fun k hk=>ie.expr 0 _ hk) pe _ _) fun l j hj=>Sq.ok rfl rfl
  ·intro i hi
   rw [Go.Proofs.YtpoghableadkcaaGreatDoor.body,Go.Proofs.YtpoghableadkcaaGreatDoor.body]
   exact Sm.bdq (S'.need _ _) fun u j hj=>Sq.bd (ih.sequence _ (need_top hj).1) fun l l' k hk e=>Sm.bdq (S'.need _ _) fun u m hm=>Sq.ok e rfl
  ·intro i hi
   rw [Go.Proofs.YtpoghableadkcaaGreatDoor.sequence,Go.Proofs.YtpoghableadkcaaGreatDoor.sequence]
   refine Sq.bd (ih.step _ hi) fun s s' j hj e=>?_
   have h1:=bt.step _ _ _ hj
   have hL:=S'.len
   have hJ:=seps_le (E:=E) E.L.length j h1.2
   have hjJ:=seps_ge (E:=E) E.L.length j
   by_cases hlt:seps E E.L.length j < E.L.length
   ·rw [simSeps S' E.L.length E'.L.length j (by omega) (by omega) hlt,S'.seesLt hlt,S'.seesLt (i:=j) (by omega),show j + d - 1=j - 1 + d by omega,S'.seesLt (i:=j - 1) (by omega)]
    refine Sq.ite Iff.rfl (fun _=>Sq.ok (by simp only [erL,e]) rfl) fun _=>Sq.ite Iff.rfl (fun _=>Sq.bd (ih.sequence _ hJ) fun l l' k hk e2=>Sq.ok (by simp only [erL,e,e2]) rfl) fun _=>Sq.wrong
   ·refine Sq.none fun a k hk=>?_
    rw [if_neg (by rw [sees_end (by omega)];decide)] at hk
    split at hk
    ·cases h2:sequence E f (seps E E.L.length j) with
     | out=>rw [h2] at hk;cases hk
     | bad c a=>rw [h2] at hk;cases hk
     | ok l m=>have:=bt.sequence _ _ _ h2;omega
    ·rw [wrong_eq] at hk;cases hk
  ·intro i hi
   rw [Go.Proofs.YtpoghableadkcaaGreatDoor.step,Go.Proofs.YtpoghableadkcaaGreatDoor.step,simKindOf S' hi]
   refine Sq.ite ?_ (fun _=>Sq.bd (simDecl S hi) fun x x' j hj e=>Sq.ok ?_ rfl) fun _=>Sq.bd (ih.stmt _ hi) fun s s' j hj e=>?_
   ·by_cases hk:kindAt E i=1
    ·have hlt:i < E.L.length:=kind_lt (E:=E) (by omega)
     rw [show i + d + 1=i + 1 + d by omega]
     have h1:=S'.kind (i:=i + 1) hlt (k:=1) (by decide) (by decide)
     have h2:=S'.kind hi (k:=1) (by decide) (by decide)
     simp only [Bool.or_eq_true,Bool.and_eq_true,decide_eq_true_eq,h1,h2]
    ·have h2:=S'.kind hi (k:=1) (by decide) (by decide)
     simp only [Bool.or_eq_true,Bool.and_eq_true,decide_eq_true_eq,h2,hk,false_and]
   ·unfold erD at e
    simp only [erS,erO,erL,e]
   ·have h1:=bt.stmt _ _ _ hj
    refine Sq.ite (by rw [S'.sees h1.2 (by decide)]) (fun hs=>?_) fun _=>Sq.ok e rfl
    rw [show j + d + 1=j + 1 + d by omega]
    exact Sq.bd (ih.stmt _ (sees_lt hs)) fun t t' k hk e2=>Sq.ok (by simp only [Stm.bod,erS,erL,erO,e,e2]) rfl
  ·intro stop i hst hi
   rw [Go.Proofs.YtpoghableadkcaaGreatDoor.options,Go.Proofs.YtpoghableadkcaaGreatDoor.options]
   refine Sm.bdq (S'.need _ _) fun u j hj=>Sq.bd (ih.sequence _ (need_top hj).1) fun l l' k hk e=>?_
   have h1:=bt.sequence _ _ _ hk
   refine Sq.ite (by rw [S'.sees h1.2 (by simp [Ne.symm hst])]) (fun hs=>Sq.ok (by simp only [erO,e]) (by omega)) fun _=>Sq.bd (ih.options _ _ hst h1.2) fun r r' m hm e2=>Sq.ok (by simp only [erO,e,e2]) rfl
end
end Go.Proofs.YtpoghableadkcaaGreatDoor
