/- The same for units, and for texts one behind the other. -/
import Derived.Test.YtpoghableadkcaaGreatDoorSmS
import Derived.Test.YtpoghableadkcaaGreatDoorM17
namespace Go.Proofs.YtpoghableadkcaaGreatDoor
set_option linter.unusedVariables false
set_option linter.unusedSimpArgs false

section
variable {E E':Env} {d c:Nat}
theorem simBraces (S:Sim E E' d [59]):∀ (g n i:Nat),Sm d (braces E g n i) (braces E' g n (i + d))
 | 0,n,i=>Sm.none fun a j h=>by cases h
 | g + 1,n,i=>by
  have hl:=S.len
  rw [Go.Proofs.YtpoghableadkcaaGreatDoor.braces,Go.Proofs.YtpoghableadkcaaGreatDoor.braces]
  by_cases h:E.L.length ≤ i
  ·rw [if_pos h];exact Sm.wrong
  ·rw [if_neg h,if_neg (show ¬ E'.L.length ≤ i + d by omega),S.seesLt (by omega),S.seesLt (by omega),show i + d + 1=i + 1 + d by omega]
   refine Sm.ite Iff.rfl (fun _=>simBraces S g _ _) fun _=>Sm.ite Iff.rfl (fun _=>Sm.ite Iff.rfl (fun _=>Sm.ok) fun _=>simBraces S g _ _) fun _=>simBraces S g _ _
theorem simDeclsTo (S:SimS E E' d c) {B:Type} {er2:B→B} {F F':List Dcl→Nat→R B} {f g i:Nat} {stop:Bs} (hi:i ≤ E.L.length) (hF:∀ l l' k,k < E.L.length→l'.map erD=l.map erD→Sq d er2 (F l k) (F' l' (k + d))) (hlt:∀ l k b m,F l k=.ok b m→k < E.L.length):
  Sq d er2 ((decls E f stop g i).bd F) ((decls E' f stop g (i + d)).bd F'):=by
 intro b m hb
 cases h:Go.Proofs.YtpoghableadkcaaGreatDoor.decls E f stop g i with
 | out=>rw [h] at hb;cases hb
 | bad c a=>rw [h] at hb;cases hb
 | ok l k=>
  rw [h] at hb
  have hk:=hlt l k b m hb
  obtain ⟨l',h1,h2⟩:=simDecls S g i l k hi h hk
  rw [h1]
  exact hF l l' k hk h2 b m hb
theorem need_lt {B:Type} {s:Bs} {k m:Nat} {b:B} {f:Unit→Nat→R B} (h:(need E s k).bd f=.ok b m):k < E.L.length:=by
 cases hn:need E s k with
 | out=>rw [hn] at h;cases h
 | bad c a=>rw [hn] at h;cases h
 | ok u j=>have:=need_top hn;omega
theorem simUnit (S:SimS E E' d c) {f i:Nat} (hi:i ≤ E.L.length):Sq d erU (unitP E f i) (unitP E' f (i + d)):=by
 have S':=S.sim
 have hL:=S'.len
 have ie:=simE S' ends_semi f
 have tp:=topE E f
 have sq:=sqS S f
 have pp:∀ i,Tp E (pid E i):=fun i a k h=>(pid_top h).1
 have pb:∀ i a k,Go.Proofs.YtpoghableadkcaaGreatDoor.pid E i=.ok a k→i < k∧k ≤ E.L.length:=fun i a k h=>by have:=pid_top h;omega
 unfold unitP
 dsimp only
 rw [show i + d + 1=i + 1 + d by omega,show i + d + 2=i + 2 + d by omega]
 refine Sq.ite ?_ (fun h=>?_) fun _=>Sq.ite (by rw [S'.sees hi (by decide)]) (fun h=>?_) fun _=>Sq.ite (by rw [S'.sees hi (by decide)]) (fun h=>?_) fun _=>Sq.ite (by rw [S'.sees hi (by decide)]) (fun h=>?_) fun _=>Sq.ite (by rw [S'.sees hi (by decide)]) (fun h=>?_) fun _=>Sq.ite (by rw [S'.sees hi (by decide)]) (fun h=>?_) fun _=>Sq.ite (by rw [S'.sees hi (by decide)]) (fun h=>?_) fun _=>?_
 ·rw [S'.sees hi (by decide)]
  cases hs:sees E i [[109,116,121,112,101]] with
  | false=>simp
  | true=>rw [S'.sees (sees_lt hs) (by decide)]
 ·simp only [Bool.and_eq_true] at h
  have h1:=sees_lt h.2
  rw [S'.seesLt h1,show (if sees E (i + 1) [[61]]=true then i + 2 + d else i + 1 + d)=(if sees E (i + 1) [[61]]=true then i + 2 else i + 1) + d by split <;> rfl]
  exact Sm.bdq (S'.need _ _) fun u j hj=>Sm.bdq (S'.many (by decide) (fun k _=>S'.pid k) pp _ _ (need_top hj).1) fun l k hk=>Sm.bdq (S'.need _ _) fun u m hm=>Sq.ok rfl rfl
 ·exact Sm.bdq (S'.pid _) fun n j hj=>Sm.bdq (S'.need _ _) fun u k hk=>simDeclsTo S (need_top hk).1 (fun l l' m hm e=>Sm.bdq (S'.need _ _) fun u m hm=>Sq.ok (by simp only [erU,Unt.zero,e]) rfl) fun l k b m h=>need_lt h
 ·refine Sm.bdq (Sm.ite (by rw [S'.sees hi (by decide)]) (fun h1=>Sm.ite (by rw [S'.sees (sees_lt h1) (by decide)]) (fun h2=>Sm.bd (ie.expr 0 _ (sees_lt h2)) fun a k hk=>Sm.bd (S'.need _ _) fun u m hm=>Sm.ok) fun _=>Sm.ok) fun _=>Sm.ok) fun p j hj=>Sm.bdq (S'.need _ _) fun u j2 hj2=>Sm.bdq (S'.pid _) fun n j3 hj3=>Sm.bdq (S'.need _ _) fun u j4 hj4=>?_
  have h4:=(need_top hj4).1
  have fin:∀ l l' k,k ≤ E.L.length→l'.map erD=l.map erD→Sq d erU ((need E [41] k).bd fun _ k=>(body E f k).bd fun b m=>R.ok ({ Unt.zero 0 (placeAt E i) with kind:=4,active:=p.1,count:=p.2,name:=n,decls:=l,body:=b }:Unt) m) ((need E' [41] (k + d)).bd fun _ k=>(body E' f k).bd fun b m=>R.ok ({ Unt.zero 0 (placeAt E' (i + d)) with kind:=4,active:=p.1,count:=p.2,name:=n,decls:=l',body:=b }:Unt) m):=
   fun l l' k hk e=>Sm.bdq (S'.need _ _) fun u m hm=>Sq.bd (sq.body _ (need_top hm).1) fun b b' q hq e2=>Sq.ok (by simp only [erU,Unt.zero,e,e2]) rfl
  rw [S'.sees h4 (by decide)]
  cases hs:sees E j4 [[41]] with
  | true=>rw [if_pos rfl,if_pos rfl];exact fin [] [] j4 h4 rfl
  | false=>rw [if_neg (by decide),if_neg (by decide)];exact simDeclsTo S h4 (fun l l' k hk e=>fin l l' k (Nat.le_of_lt hk) e) fun l k b m h=>need_lt h
 ·exact Sq.bd (sq.body _ (sees_lt h)) fun b b' m hm e=>Sq.ok (by simp only [erU,Unt.zero,e]) rfl
 ·exact Sq.bd (sq.body _ (sees_lt h)) fun b b' m hm e=>Sq.ok (by simp only [erU,Unt.zero,e]) rfl
 ·exact Sm.bdq (S'.pid _) fun n j hj=>Sm.bdq (S'.within (by decide) (fun k _=>S'.pid k) pb _ _) fun l k hk=>Sq.bd (sq.body _ (within_top pp _ _ _ _ hk)) fun b b' m hm e=>Sq.ok (by simp only [erU,Unt.zero,e]) rfl
 ·have h1:=sees_lt h
  refine Sm.bdq (Sm.ite (S'.kind h1 (by decide) (by decide)) (fun hk=>?_) fun _=>Sm.ok) fun n j hj=>Sm.bdq (S'.need _ _) fun u k hk=>Sm.bdq (simBraces S' _ _ _) fun u m hm=>?_
  ·rw [(S'.tok _ (kind_lt (E:=E) (by omega))).2.1];exact Sm.ok
  ·have hm1:=braces_lt _ _ _ _ _ hm
   have hk1:=need_top hk
   refine Sq.ok ?_ (by omega)
   have h2:=S.text (placeAt E (k - 1) + 1) (placeAt E m) (S.top m hm1)
   rw [S.place m hm1,show k + d - 1=k - 1 + d by omega,S.place (k - 1) (by omega)]
   simp only [erU,Unt.zero]
   rw [← h2,show placeAt E (k - 1) + 1 + c=placeAt E (k - 1) + c + 1 by omega]
 ·exact Sq.bd (simDecl S hi) fun x x' j hj e=>Sq.ok (by simp only [erU,Unt.zero,e]) rfl
theorem units_more {f:Nat}:∀ (g i n:Nat) (l:List Unt) (j:Nat),units E f g i=.ok l j→units E f (g + n) i=.ok l j
 | 0,i,n,l,j,h=>by cases h
 | g + 1,i,n,l,j,h=>by
  rw [show g + 1 + n=g + n + 1 by omega,units]
  rw [units] at h
  by_cases h1:E.L.length ≤ i
  ·rw [if_pos h1] at h ⊢;exact h
  ·rw [if_neg h1] at h ⊢
   by_cases h2:sees E i [[59]]=true
   ·rw [if_pos h2] at h ⊢;exact units_more g _ n l j h
   ·rw [if_neg h2] at h ⊢
    cases h3:unitP E f i with
    | out=>rw [h3] at h;cases h
    | bad c a=>rw [h3] at h;cases h
    | ok u k=>
     rw [h3] at h
     simp only [R.bd] at h ⊢
     cases h4:units E f g k with
     | out=>rw [h4] at h;cases h
     | bad c a=>rw [h4] at h;cases h
     | ok l2 k2=>rw [h4] at h;rw [units_more g k n l2 k2 h4];exact h
theorem simUnits (S:SimS E E' d c) {f:Nat}:∀ (g i:Nat) (l:List Unt) (j:Nat),i ≤ E.L.length→units E f g i=.ok l j→∀ (g':Nat) (m:List Unt) (k:Nat),units E' f g' (E.L.length + d)=.ok m k →
  ∃ l',units E' f (g + g') (i + d)=.ok (l' ++ m) k∧l'.map erU=l.map erU
 | 0,i,l,j,hi,h,g',m,k,hm=>by cases h
 | g + 1,i,l,j,hi,h,g',m,k,hm=>by
  have hL:=S.sim.len
  rw [Go.Proofs.YtpoghableadkcaaGreatDoor.units] at h
  by_cases h1:E.L.length ≤ i
  ·rw [if_pos h1] at h
   injection h with h2 h3
   subst h2 h3
   obtain rfl:i=E.L.length:=by omega
   exact ⟨[],by rw [Nat.add_comm];exact units_more _ _ _ _ _ hm,rfl⟩
  ·rw [if_neg h1] at h
   rw [show g + 1 + g'=g + g' + 1 by omega,Go.Proofs.YtpoghableadkcaaGreatDoor.units,if_neg (by omega),S.sim.seesLt (by omega),show i + d + 1=i + 1 + d by omega]
   by_cases h2:sees E i [[59]]=true
   ·rw [if_pos h2] at h ⊢
    exact simUnits S g _ l j (by omega) h g' m k hm
   ·rw [if_neg h2] at h ⊢
    cases h3:unitP E f i with
    | out=>rw [h3] at h;cases h
    | bad c a=>rw [h3] at h;cases h
    | ok u q=>
     rw [h3] at h
     obtain ⟨u',h5,h6⟩:=simUnit S hi u q h3
     simp only [R.bd] at h
     cases h4:Go.Proofs.YtpoghableadkcaaGreatDoor.units E f g q with
     | out=>rw [h4] at h;cases h
     | bad c a=>rw [h4] at h;cases h
     | ok l2 k2=>
      rw [h4] at h
      injection h with h7 h8
      subst h7 h8
      have hq:q ≤ E.L.length:=unit_top h3
      obtain ⟨l',h9,h10⟩:=simUnits S g q l2 k2 hq h4 g' m k hm
      rw [h5]
      simp only [R.bd]
      rw [h9]
      exact ⟨u' :: l',rfl,by simp [h6,h10]⟩
end
end Go.Proofs.YtpoghableadkcaaGreatDoor
