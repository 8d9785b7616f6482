/- Adv, Top, Sim, Exp, Exp2, Exp3, Box, joined. -/
import Derived.Test.YtpoghableadkcaaGreatDoorM07
import Derived.Test.YtpoghableadkcaaGreatDoorM09
section
/- What is read lies ahead: plain laws of the parser. -/
namespace Go.Proofs.YtpoghableadkcaaGreatDoor
set_option linter.unusedVariables false
set_option linter.unusedSimpArgs false

/-- Where a thing is read,the next word's number is k at least. -/
def To {A:Type} (k:Nat) (r:R A):Prop:=∀ a j,r=.ok a j→k ≤ j
section
variable {A B:Type} {k:Nat} {r:R A} {E:Env}
theorem To.bd {f:A→Nat→R B} (h:∀ a j,r=.ok a j→To k (f a j)):To k (r.bd f):=by
 intro b m hb
 cases r with
 | out=>cases hb
 | bad c a=>cases hb
 | ok a j=>exact h a j rfl b m hb
theorem To.ok {a:A} {j:Nat} (h:k ≤ j):To k (.ok a j):=by
 intro b m hb
 injection hb with _ hb
 omega
theorem To.out:To k (.out:R A):=fun _ _ h=>by cases h
theorem To.bad {c a:Nat}:To k (.bad c a:R A):=fun _ _ h=>by cases h
theorem To.wrong {i:Nat}:To k (wrong E i:R A):=by rw [wrong_eq];exact To.bad
theorem To.ite {c:Prop} [Decidable c] {x y:R A} (hx:c→To k x) (hy:¬ c→To k y):To k (if c then x else y):=by
 split
 ·exact hx ‹_›
 ·exact hy ‹_›
theorem need_pos {s:Bs} {i j:Nat} {u:Unit} (h:need E s i=.ok u j):j=i + 1:=by
 unfold need at h
 split at h
 ·injection h with _ h;omega
 ·rw [wrong_eq] at h;cases h
theorem pid_pos {s:Bs} {i j:Nat} (h:pid E i=.ok s j):j=i + 1:=by
 unfold pid at h
 split at h
 ·injection h with _ h;omega
 ·rw [wrong_eq] at h;cases h
theorem commas_pos {one:Nat→R A} (ho:∀ i a k,one i=.ok a k→i ≤ k) {g i j:Nat} {l:List A} (h:commas E one g i=.ok l j):i ≤ j:=by
 have:=commas_len ho g i l j h
 omega
theorem many_pos {one:Nat→R A} (ho:∀ i a k,one i=.ok a k→i < k) {g i j:Nat} {l:List A} (h:many E one g i=.ok l j):i < j:=by
 refine To.bd (k:=i + 1) (fun a m hm=>?_) l j h
 have h1:=ho _ _ _ hm
 refine To.bd fun l n hn=>?_
 have h2:=commas_pos (fun i a k h=>Nat.le_of_lt (ho i a k h)) hn
 exact To.ok (by omega)
theorem within_pos {one:Nat→R A} (ho:∀ i a k,one i=.ok a k→i < k) {g i j:Nat} {l:List A} (h:within E one g i=.ok l j):i < j:=by
 refine To.bd (k:=i + 1) (fun a m hm=>?_) l j h
 have h1:=need_pos hm
 refine To.ite (fun _=>To.ok (by omega)) fun _=>?_
 refine To.bd fun l n hn=>?_
 have h2:=many_pos ho hn
 refine To.bd fun u q hq=>?_
 have h3:=need_pos hq
 exact To.ok (by omega)
theorem message_pos {one:Nat→R A} (ho:∀ i a k,one i=.ok a k→i < k) {g i j:Nat} {l:List A} (h:message E one g i=.ok l j):i < j:=by
 refine To.bd (k:=i + 1) (fun a m hm=>?_) l j h
 have h1:=ho _ _ _ hm
 refine To.ite (fun _=>?_) fun _=>?_
 ·refine To.bd fun l n hn=>?_
  have h2:=many_pos ho hn
  refine To.bd fun u q hq=>?_
  have h3:=need_pos hq
  exact To.ok (by omega)
 ·refine To.bd fun l n hn=>?_
  have h2:=commas_pos (fun i a k h=>Nat.le_of_lt (ho i a k h)) hn
  exact To.ok (by omega)
end

structure AdvE (E:Env) (f:Nat):Prop where
 expr:∀ {lvl i a j},expr E f lvl i=.ok a j→i < j
 go:∀ {lvl a0 i a j},exprGo E f lvl a0 i=.ok a j→i ≤ j
 unary:∀ {i a j},unary E f i=.ok a j→i < j
 bracket:∀ {i a j},bracket E f i=.ok a j→i < j
 choice:∀ {a0 i a j},choice E f a0 i=.ok a j→i < j
 primary:∀ {i a j},primary E f i=.ok a j→i < j
 named:∀ {i a j},named E f i=.ok a j→i < j
 ref:∀ {i a j},ref E f i=.ok a j→i < j
 arg:∀ {i a j},arg E f i=.ok a j→i < j

theorem advE (E:Env):∀ f,AdvE E f
 | 0=>by constructor <;> intros <;> rename_i h <;> simp [Go.Proofs.YtpoghableadkcaaGreatDoor.expr,exprGo,Go.Proofs.YtpoghableadkcaaGreatDoor.unary,Go.Proofs.YtpoghableadkcaaGreatDoor.bracket,Go.Proofs.YtpoghableadkcaaGreatDoor.choice,Go.Proofs.YtpoghableadkcaaGreatDoor.primary,Go.Proofs.YtpoghableadkcaaGreatDoor.named,Go.Proofs.YtpoghableadkcaaGreatDoor.ref,Go.Proofs.YtpoghableadkcaaGreatDoor.arg] at h
 | f + 1=>by
  have ih:=advE E f
  constructor
  ·intro lvl i a j h
   rw [Go.Proofs.YtpoghableadkcaaGreatDoor.expr] at h
   refine To.bd (k:=i + 1) (fun a m hm=>?_) a j h
   have h1:=ih.unary hm
   exact fun b q hq=>by have:=ih.go hq;omega
  ·intro lvl a0 i a j h
   rw [exprGo] at h
   refine To.ite (k:=i) (fun _=>?_) (fun _=>To.ok (by omega)) a j h
   refine To.bd fun a m hm=>?_
   have h1:=ih.expr hm
   exact fun b q hq=>by have:=ih.go hq;omega
  ·intro i a j h
   rw [Go.Proofs.YtpoghableadkcaaGreatDoor.unary] at h
   refine To.ite (k:=i + 1) (fun _=>?_) (fun _=>?_) a j h
   ·refine To.bd fun a m hm=>?_
    have h1:=ih.unary hm
    exact To.ok (by omega)
   ·refine To.ite (fun _=>?_) fun _=>?_
    ·exact fun b q hq=>by have:=ih.bracket hq;omega
    ·exact fun b q hq=>by have:=ih.primary hq;omega
  ·intro i a j h
   rw [Go.Proofs.YtpoghableadkcaaGreatDoor.bracket] at h
   refine To.bd (k:=i + 1) (fun a m hm=>?_) a j h
   have h1:=ih.expr hm
   refine To.ite (fun _=>?_) fun _=>?_
   ·refine To.bd fun b n hn=>?_
    have h2:=ih.choice hn
    refine To.bd fun u q hq=>?_
    have h3:=need_pos hq
    exact To.ok (by omega)
   ·refine To.bd fun u q hq=>?_
    have h3:=need_pos hq
    exact To.ok (by omega)
  ·intro a0 i a j h
   rw [Go.Proofs.YtpoghableadkcaaGreatDoor.choice] at h
   refine To.bd (k:=i + 1) (fun a m hm=>?_) a j h
   have h1:=ih.expr hm
   refine To.bd fun u q hq=>?_
   have h2:=need_pos hq
   refine To.bd fun b n hn=>?_
   have h3:=ih.expr hn
   exact To.ok (by omega)
  ·intro i a j h
   rw [Go.Proofs.YtpoghableadkcaaGreatDoor.primary] at h
   refine To.ite (k:=i + 1) (fun _=>To.ok (by omega)) (fun _=>?_) a j h
   refine To.ite (fun _ b q hq=>by have:=ih.named hq;omega) fun _=>?_
   refine To.ite (fun _=>To.ok (by omega)) fun _=>?_
   refine To.ite (fun _=>To.ok (by omega)) fun _=>?_
   refine To.ite (fun _=>?_) fun _=>?_
   ·refine To.bd fun n m hm=>?_
    have h1:=pid_pos hm
    refine To.bd fun l q hq=>?_
    have h2:=within_pos (fun i a k h=>ih.expr h) hq
    exact To.ok (by omega)
   refine To.ite (fun _=>To.ok (by omega)) fun _=>?_
   refine To.ite (fun _=>?_) fun _=>To.wrong
   refine To.bd fun u m hm=>?_
   have h1:=need_pos hm
   refine To.bd fun r n hn=>?_
   have h2:=ih.ref hn
   refine To.bd fun u q hq=>?_
   have h3:=need_pos hq
   exact To.ok (by omega)
  ·intro i a j h
   rw [Go.Proofs.YtpoghableadkcaaGreatDoor.named] at h
   refine To.bd (k:=i + 1) (fun r m hm=>?_) a j h
   have h1:=ih.ref hm
   refine To.ite (fun _=>?_) fun _=>?_
   ·refine To.bd fun l n hn=>?_
    have h2:=pid_pos hn
    exact To.ok (by omega)
   refine To.ite (fun _=>?_) fun _=>To.ok (by omega)
   refine To.bd fun l n hn=>?_
   have h2:=message_pos (fun i a k h=>ih.arg h) hn
   refine To.bd fun u q hq=>?_
   have h3:=need_pos hq
   exact To.ok (by omega)
  ·intro i a j h
   rw [Go.Proofs.YtpoghableadkcaaGreatDoor.ref] at h
   refine To.bd (k:=i + 1) (fun n m hm=>?_) a j h
   have h1:=pid_pos hm
   refine To.bd fun p k hk=>?_
   have h2:m ≤ k:=by
    refine To.ite (k:=m) (fun _=>?_) (fun _=>To.ok (Nat.le_refl _)) p k hk
    refine To.bd fun a n hn=>?_
    have h2:=ih.expr hn
    refine To.bd fun u q hq=>?_
    have h3:=need_pos hq
    exact To.ok (by omega)
   refine To.ite (fun _=>?_) fun _=>To.ok (by omega)
   refine To.bd fun r n hn=>?_
   have h3:=ih.ref hn
   exact To.ok (by omega)
  ·intro i a j h
   rw [Go.Proofs.YtpoghableadkcaaGreatDoor.arg] at h
   refine To.ite (k:=i + 1) (fun _=>To.ok (by omega)) (fun _=>?_) a j h
   refine To.ite (fun _=>?_) fun _=>?_
   ·refine To.bd fun u m hm=>?_
    have h1:=need_pos hm
    refine To.bd fun e n hn=>?_
    have h2:=ih.expr hn
    refine To.bd fun u q hq=>?_
    have h3:=need_pos hq
    exact To.ok (by omega)
   refine To.ite (fun _=>?_) fun _=>?_
   ·refine To.bd fun r n hn=>?_
    have h2:=ih.ref hn
    exact To.ok (by omega)
   refine To.ite (fun _=>?_) fun _=>To.wrong
   refine To.bd fun r n hn=>?_
   have h2:=ih.unary hn
   exact To.ok (by omega)
end Go.Proofs.YtpoghableadkcaaGreatDoor
end
section
/- Plain laws of the parser: what is read lies within the words; there is fuel enough. -/
namespace Go.Proofs.YtpoghableadkcaaGreatDoor
set_option linter.unusedVariables false
set_option linter.unusedSimpArgs false

/-- Where a thing is read,the next word's number is at most the words' number. -/
def Tp {A:Type} (E:Env) (r:R A):Prop:=∀ a j,r=.ok a j→j ≤ E.L.length
section
variable {A B:Type} {r:R A} {E:Env}
theorem Tp.bd {f:A→Nat→R B} (h:∀ a j,r=.ok a j→Tp E (f a j)):Tp E (r.bd f):=by
 intro b m hb
 cases r with
 | out=>cases hb
 | bad c a=>cases hb
 | ok a j=>exact h a j rfl b m hb
theorem Tp.ok {a:A} {j:Nat} (h:j ≤ E.L.length):Tp E (.ok a j):=by
 intro b m hb
 injection hb with _ hb
 omega
theorem Tp.out:Tp E (.out:R A):=fun _ _ h=>by cases h
theorem Tp.wrong {i:Nat}:Tp E (wrong E i:R A):=by rw [wrong_eq];exact fun _ _ h=>by cases h
theorem Tp.ite {c:Prop} [Decidable c] {x y:R A} (hx:c→Tp E x) (hy:¬ c→Tp E y):Tp E (if c then x else y):=by
 split
 ·exact hx ‹_›
 ·exact hy ‹_›
theorem need_top {s:Bs} {i j:Nat} {u:Unit} (h:need E s i=.ok u j):j ≤ E.L.length∧j=i + 1:=by
 unfold need at h
 split at h
 ·next hs=>injection h with _ h;have:=sees_lt hs;omega
 ·rw [wrong_eq] at h;cases h
theorem pid_top {s:Bs} {i j:Nat} (h:pid E i=.ok s j):j ≤ E.L.length∧j=i + 1:=by
 unfold pid at h
 split at h
 ·next hs=>injection h with _ h;have:=kind_lt (E:=E) (i:=i) (by omega);omega
 ·rw [wrong_eq] at h;cases h
theorem commas_top {one:Nat→R A} (ho:∀ i,Tp E (one i)):∀ (g i:Nat),i ≤ E.L.length→Tp E (commas E one g i)
 | 0,i,h=>Tp.out
 | g + 1,i,h=>by
  rw [commas]
  refine Tp.ite (fun _=>Tp.bd fun a j hj=>Tp.bd fun l k hk=>Tp.ok ?_) (fun _=>Tp.ok h)
  exact commas_top ho g j (ho _ _ _ hj) _ _ hk
theorem many_top {one:Nat→R A} (ho:∀ i,Tp E (one i)) (g i:Nat):Tp E (many E one g i):=by
 unfold many
 exact Tp.bd fun a j hj=>Tp.bd fun l k hk=>Tp.ok (commas_top ho g j (ho _ _ _ hj) _ _ hk)
theorem within_top {one:Nat→R A} (ho:∀ i,Tp E (one i)) (g i:Nat):Tp E (within E one g i):=by
 unfold within
 refine Tp.bd fun u j hj=>Tp.ite (fun hs=>Tp.ok (sees_lt hs)) fun _=>Tp.bd fun l k hk=>Tp.bd fun u m hm=>Tp.ok (need_top hm).1
theorem message_top {one:Nat→R A} (ho:∀ i,Tp E (one i)) (g i:Nat):Tp E (message E one g i):=by
 unfold message
 refine Tp.bd fun a j hj=>Tp.ite (fun hs=>Tp.bd fun l k hk=>Tp.bd fun u m hm=>Tp.ok (need_top hm).1) fun _=>Tp.bd fun l k hk=>Tp.ok (commas_top ho g j (ho _ _ _ hj) _ _ hk)
end

structure TopE (E:Env) (f:Nat):Prop where
 expr:∀ lvl i,Tp E (expr E f lvl i)
 go:∀ lvl a i,i ≤ E.L.length→Tp E (exprGo E f lvl a i)
 unary:∀ i,Tp E (unary E f i)
 bracket:∀ i,Tp E (bracket E f i)
 choice:∀ a i,Tp E (choice E f a i)
 primary:∀ i,Tp E (primary E f i)
 named:∀ i,Tp E (named E f i)
 ref:∀ i,Tp E (ref E f i)
 arg:∀ i,Tp E (arg E f i)
theorem topE (E:Env):∀ f,TopE E f
 | 0=>by constructor <;> intros <;> intro a j h <;> simp [Go.Proofs.YtpoghableadkcaaGreatDoor.expr,exprGo,Go.Proofs.YtpoghableadkcaaGreatDoor.unary,Go.Proofs.YtpoghableadkcaaGreatDoor.bracket,Go.Proofs.YtpoghableadkcaaGreatDoor.choice,Go.Proofs.YtpoghableadkcaaGreatDoor.primary,Go.Proofs.YtpoghableadkcaaGreatDoor.named,Go.Proofs.YtpoghableadkcaaGreatDoor.ref,Go.Proofs.YtpoghableadkcaaGreatDoor.arg] at h
 | f + 1=>by
  have ih:=topE E f
  constructor
  ·intro lvl i
   rw [Go.Proofs.YtpoghableadkcaaGreatDoor.expr]
   exact Tp.bd fun a j hj=>ih.go _ _ _ (ih.unary _ _ _ hj)
  ·intro lvl a i hi
   rw [exprGo]
   exact Tp.ite (fun _=>Tp.bd fun b j hj=>ih.go _ _ _ (ih.expr _ _ _ _ hj)) fun _=>Tp.ok hi
  ·intro i
   rw [Go.Proofs.YtpoghableadkcaaGreatDoor.unary]
   refine Tp.ite (fun _=>Tp.bd fun a j hj=>Tp.ok (ih.unary _ _ _ hj)) fun _=>Tp.ite (fun _=>ih.bracket _) fun _=>ih.primary _
  ·intro i
   rw [Go.Proofs.YtpoghableadkcaaGreatDoor.bracket]
   refine Tp.bd fun a j hj=>Tp.ite (fun _=>Tp.bd fun b k hk=>Tp.bd fun u m hm=>Tp.ok (need_top hm).1) fun _=>Tp.bd fun u m hm=>Tp.ok (need_top hm).1
  ·intro a i
   rw [Go.Proofs.YtpoghableadkcaaGreatDoor.choice]
   refine Tp.bd fun b j hj=>Tp.bd fun u k hk=>Tp.bd fun c m hm=>Tp.ok (ih.expr _ _ _ _ hm)
  ·intro i
   rw [Go.Proofs.YtpoghableadkcaaGreatDoor.primary]
   refine Tp.ite (fun h=>Tp.ok (kind_lt (E:=E) (by omega))) fun _=>Tp.ite (fun _=>ih.named _) fun _=>Tp.ite (fun h=>Tp.ok (sees_lt h)) fun _=>Tp.ite (fun h=>Tp.ok (sees_lt h)) fun _=>Tp.ite (fun h=>?_) fun _=>Tp.ite (fun h=>Tp.ok (sees_lt h)) fun _=>Tp.ite (fun h=>?_) fun _=>Tp.wrong
   ·exact Tp.bd fun n j hj=>Tp.bd fun l k hk=>Tp.ok (within_top (fun i=>ih.expr _ i) _ _ _ _ hk)
   ·exact Tp.bd fun u j hj=>Tp.bd fun r k hk=>Tp.bd fun u m hm=>Tp.ok (need_top hm).1
  ·intro i
   rw [Go.Proofs.YtpoghableadkcaaGreatDoor.named]
   refine Tp.bd fun r j hj=>Tp.ite (fun h=>Tp.bd fun l k hk=>Tp.ok (pid_top hk).1) fun _=>Tp.ite (fun h=>Tp.bd fun l k hk=>Tp.bd fun u m hm=>Tp.ok (need_top hm).1) fun _=>Tp.ok (ih.ref _ _ _ hj)
  ·intro i
   rw [Go.Proofs.YtpoghableadkcaaGreatDoor.ref]
   refine Tp.bd fun n j hj=>Tp.bd fun p k hk=>Tp.ite (fun h=>Tp.bd fun r m hm=>Tp.ok (ih.ref _ _ _ hm)) fun _=>Tp.ok ?_
   refine Tp.ite (c:=sees E j [[91]]=true) (E:=E) (fun h=>?_) (fun _=>Tp.ok (pid_top hj).1) _ _ hk
   exact Tp.bd fun a k hk=>Tp.bd fun u m hm=>Tp.ok (need_top hm).1
  ·intro i
   rw [Go.Proofs.YtpoghableadkcaaGreatDoor.arg]
   refine Tp.ite (fun h=>Tp.ok (sees_lt h)) fun _=>Tp.ite (fun h=>?_) fun _=>Tp.ite (fun h=>Tp.bd fun r j hj=>Tp.ok (ih.ref _ _ _ hj)) fun _=>Tp.ite (fun h=>Tp.bd fun a j hj=>Tp.ok (ih.unary _ _ _ hj)) fun _=>Tp.wrong
   exact Tp.bd fun u j hj=>Tp.bd fun a k hk=>Tp.bd fun u m hm=>Tp.ok (need_top hm).1

/-- There is fuel enough. -/
def Fu {A:Type} (r:R A):Prop:=r ≠ .out
section
variable {A B:Type} {r:R A} {E:Env}
theorem Fu.bd {f:A→Nat→R B} (h0:Fu r) (h:∀ a j,r=.ok a j→Fu (f a j)):Fu (r.bd f):=by
 cases r with
 | out=>exact absurd rfl h0
 | bad c a=>exact fun h=>by cases h
 | ok a j=>exact h a j rfl
theorem Fu.ok {a:A} {j:Nat}:Fu (.ok a j):=fun h=>by cases h
theorem Fu.wrong {i:Nat}:Fu (wrong E i:R A):=by rw [wrong_eq];exact fun h=>by cases h
theorem Fu.ite {c:Prop} [Decidable c] {x y:R A} (hx:c→Fu x) (hy:¬ c→Fu y):Fu (if c then x else y):=by
 split
 ·exact hx ‹_›
 ·exact hy ‹_›
theorem Fu.need {s:Bs} {i:Nat}:Fu (need E s i):=need_ne
theorem Fu.pid {i:Nat}:Fu (pid E i):=by
 unfold Go.Proofs.YtpoghableadkcaaGreatDoor.pid
 exact Fu.ite (fun _=>Fu.ok) fun _=>Fu.wrong
theorem Fu.commas {one:Nat→R A} {lo:Nat} (ho:∀ i,lo ≤ i→i ≤ E.L.length→Fu (one i)) (hp:∀ i a k,one i=.ok a k→i < k∧k ≤ E.L.length):∀ (g i:Nat),lo ≤ i→i ≤ E.L.length→E.L.length < i + g→Fu (commas E one g i)
 | 0,i,hl,h,hg=>by omega
 | g + 1,i,hl,h,hg=>by
  rw [Go.Proofs.YtpoghableadkcaaGreatDoor.commas]
  refine Fu.ite (fun hs=>?_) fun _=>Fu.ok
  have h1:=sees_lt hs
  refine Fu.bd (ho _ (by omega) (by omega)) fun a j hj=>?_
  have h2:=hp _ _ _ hj
  exact Fu.bd (Fu.commas ho hp g j (by omega) h2.2 (by omega)) fun l k hk=>Fu.ok
theorem Fu.many {one:Nat→R A} {lo:Nat} (ho:∀ i,lo ≤ i→i ≤ E.L.length→Fu (one i)) (hp:∀ i a k,one i=.ok a k→i < k∧k ≤ E.L.length) {g i:Nat} (hl:lo ≤ i) (h:i ≤ E.L.length) (hg:E.L.length < i + g):Fu (many E one g i):=by
 unfold Go.Proofs.YtpoghableadkcaaGreatDoor.many
 refine Fu.bd (ho _ hl h) fun a j hj=>?_
 have h2:=hp _ _ _ hj
 exact Fu.bd (Fu.commas ho hp g j (by omega) h2.2 (by omega)) fun l k hk=>Fu.ok
theorem Fu.within {one:Nat→R A} {lo:Nat} (ho:∀ i,lo ≤ i→i ≤ E.L.length→Fu (one i)) (hp:∀ i a k,one i=.ok a k→i < k∧k ≤ E.L.length) {g i:Nat} (hl:lo ≤ i + 1) (h:i ≤ E.L.length) (hg:E.L.length < i + g):Fu (within E one g i):=by
 unfold Go.Proofs.YtpoghableadkcaaGreatDoor.within
 refine Fu.bd Fu.need fun u j hj=>?_
 have h1:=need_top hj
 exact Fu.ite (fun _=>Fu.ok) fun _=>Fu.bd (Fu.many ho hp (by omega) h1.1 (by omega)) fun l k hk=>Fu.bd Fu.need fun u m hm=>Fu.ok
theorem Fu.message {one:Nat→R A} {lo:Nat} (ho:∀ i,lo ≤ i→i ≤ E.L.length→Fu (one i)) (hp:∀ i a k,one i=.ok a k→i < k∧k ≤ E.L.length) {g i:Nat} (hl:lo ≤ i) (h:i ≤ E.L.length) (hg:E.L.length < i + g):Fu (message E one g i):=by
 unfold Go.Proofs.YtpoghableadkcaaGreatDoor.message
 refine Fu.bd (ho _ hl h) fun a j hj=>?_
 have h2:=hp _ _ _ hj
 refine Fu.ite (fun hs=>?_) fun _=>?_
 ·have:=sees_lt hs
  exact Fu.bd (Fu.many ho hp (by omega) (by omega) (by omega)) fun l k hk=>Fu.bd Fu.need fun u m hm=>Fu.ok
 ·exact Fu.bd (Fu.commas ho hp g j (by omega) h2.2 (by omega)) fun l k hk=>Fu.ok
end

/-- How much fuel there is to be. -/
def need_ (E:Env) (i r:Nat):Nat:=8 * (E.L.length - i) + r
structure FuE (E:Env) (f:Nat):Prop where
 expr:∀ lvl i,i ≤ E.L.length→8 * (E.L.length - i) + 5 < f→Fu (expr E f lvl i)
 go:∀ lvl a i,i ≤ E.L.length→8 * (E.L.length - i) + 6 < f→Fu (exprGo E f lvl a i)
 unary:∀ i,i ≤ E.L.length→8 * (E.L.length - i) + 4 < f→Fu (unary E f i)
 bracket:∀ i,i ≤ E.L.length→8 * (E.L.length - i) + 6 < f→Fu (bracket E f i)
 choice:∀ a i,i ≤ E.L.length→8 * (E.L.length - i) + 6 < f→Fu (choice E f a i)
 primary:∀ i,i ≤ E.L.length→8 * (E.L.length - i) + 3 < f→Fu (primary E f i)
 named:∀ i,i ≤ E.L.length→8 * (E.L.length - i) + 2 < f→Fu (named E f i)
 ref:∀ i,i ≤ E.L.length→8 * (E.L.length - i) + 1 < f→Fu (ref E f i)
 arg:∀ i,i ≤ E.L.length→8 * (E.L.length - i) + 5 < f→Fu (arg E f i)
theorem fuE (E:Env):∀ f,FuE E f
 | 0=>by constructor <;> intros <;> omega
 | f + 1=>by
  have ih:=fuE E f
  have ad:=advE E f
  have tp:=topE E f
  have pe:∀ i a k,Go.Proofs.YtpoghableadkcaaGreatDoor.expr E f 0 i=.ok a k→i < k∧k ≤ E.L.length:=fun i a k h=>⟨ad.expr h,tp.expr _ _ _ _ h⟩
  have pa:∀ i a k,Go.Proofs.YtpoghableadkcaaGreatDoor.arg E f i=.ok a k→i < k∧k ≤ E.L.length:=fun i a k h=>⟨ad.arg h,tp.arg _ _ _ h⟩
  constructor
  ·intro lvl i hi hf
   rw [Go.Proofs.YtpoghableadkcaaGreatDoor.expr]
   refine Fu.bd (ih.unary _ hi (by omega)) fun a j hj=>?_
   have h1:=ad.unary hj
   have h2:=tp.unary _ _ _ hj
   exact ih.go _ _ _ h2 (by omega)
  ·intro lvl a i hi hf
   rw [exprGo]
   refine Fu.ite (fun hl=>?_) fun _=>Fu.ok
   have h0:i < E.L.length:=by
    unfold levAt at hl
    by_cases h:i < E.L.length
    ·exact h
    ·exfalso
     have hn:∀ l,sees E i l=false:=fun l=>by
      cases hs:sees E i l with
      | false=>rfl
      | true=>exact absurd (sees_lt hs) h
     simp only [hn] at hl
     rw [show levelsL.findIdx (fun _=>false)=10 by decide] at hl
     simp at hl
   refine Fu.bd (ih.expr _ _ h0 (by omega)) fun b j hj=>?_
   have h1:=ad.expr hj
   have h2:=tp.expr _ _ _ _ hj
   exact ih.go _ _ _ h2 (by omega)
  ·intro i hi hf
   rw [Go.Proofs.YtpoghableadkcaaGreatDoor.unary]
   refine Fu.ite (fun hs=>?_) fun _=>Fu.ite (fun hs=>?_) fun _=>ih.primary _ hi (by omega)
   ·have:=sees_lt hs
    exact Fu.bd (ih.unary _ (by omega) (by omega)) fun a j hj=>Fu.ok
   ·have:=sees_lt hs
    exact ih.bracket _ (by omega) (by omega)
  ·intro i hi hf
   rw [Go.Proofs.YtpoghableadkcaaGreatDoor.bracket]
   refine Fu.bd (ih.expr _ _ hi (by omega)) fun a j hj=>?_
   have h1:=ad.expr hj
   refine Fu.ite (fun hs=>?_) fun _=>Fu.bd Fu.need fun u m hm=>Fu.ok
   have:=sees_lt hs
   exact Fu.bd (ih.choice _ _ (by omega) (by omega)) fun b k hk=>Fu.bd Fu.need fun u m hm=>Fu.ok
  ·intro a i hi hf
   rw [Go.Proofs.YtpoghableadkcaaGreatDoor.choice]
   refine Fu.bd (ih.expr _ _ hi (by omega)) fun b j hj=>Fu.bd Fu.need fun u k hk=>?_
   have h1:=ad.expr hj
   have h2:=need_top hk
   exact Fu.bd (ih.expr _ _ h2.1 (by omega)) fun c m hm=>Fu.ok
  ·intro i hi hf
   rw [Go.Proofs.YtpoghableadkcaaGreatDoor.primary]
   refine Fu.ite (fun _=>Fu.ok) fun _=>Fu.ite (fun _=>ih.named _ hi (by omega)) fun _=>Fu.ite (fun h=>Fu.ok) fun _=>Fu.ite (fun h=>Fu.ok) fun _=>Fu.ite (fun h=>?_) fun _=>Fu.ite (fun h=>Fu.ok) fun _=>Fu.ite (fun h=>?_) fun _=>Fu.wrong
   ·have:=sees_lt h
    refine Fu.bd Fu.pid fun n j hj=>?_
    have h1:=pid_top hj
    exact Fu.bd (Fu.within (lo:=i + 1) (fun k h1 h2=>ih.expr _ _ h2 (by omega)) pe (by omega) h1.1 (by omega)) fun l k hk=>Fu.ok
   ·have:=sees_lt h
    refine Fu.bd Fu.need fun u j hj=>?_
    have h1:=need_top hj
    exact Fu.bd (ih.ref _ h1.1 (by omega)) fun r k hk=>Fu.bd Fu.need fun u m hm=>Fu.ok
  ·intro i hi hf
   rw [Go.Proofs.YtpoghableadkcaaGreatDoor.named]
   refine Fu.bd (ih.ref _ hi (by omega)) fun r j hj=>?_
   have h1:=ad.ref hj
   refine Fu.ite (fun h=>Fu.bd Fu.pid fun l k hk=>Fu.ok) fun _=>Fu.ite (fun h=>?_) fun _=>Fu.ok
   simp only [Bool.and_eq_true] at h
   have:=sees_lt h.2
   exact Fu.bd (Fu.message (lo:=i + 1) (fun k h1 h2=>ih.arg _ h2 (by omega)) pa (by omega) (by omega) (by omega)) fun l k hk=>Fu.bd Fu.need fun u m hm=>Fu.ok
  ·intro i hi hf
   rw [Go.Proofs.YtpoghableadkcaaGreatDoor.ref]
   refine Fu.bd Fu.pid fun n j hj=>?_
   have h1:=pid_top hj
   refine Fu.bd ?_ fun p k hk=>?_
   ·refine Fu.ite (fun h=>?_) fun _=>Fu.ok
    have:=sees_lt h
    exact Fu.bd (ih.expr _ _ (by omega) (by omega)) fun a k hk=>Fu.bd Fu.need fun u m hm=>Fu.ok
   ·have h2:j ≤ k:=by
     refine To.ite (k:=j) (c:=sees E j [[91]]=true) (fun _=>?_) (fun _=>To.ok (Nat.le_refl _)) p k hk
     refine To.bd fun a n hn=>?_
     have h2:=ad.expr hn
     refine To.bd fun u q hq=>?_
     have h3:=need_pos hq
     exact To.ok (by omega)
    refine Fu.ite (fun h=>?_) fun _=>Fu.ok
    have:=sees_lt h
    exact Fu.bd (ih.ref _ (by omega) (by omega)) fun r m hm=>Fu.ok
  ·intro i hi hf
   rw [Go.Proofs.YtpoghableadkcaaGreatDoor.arg]
   refine Fu.ite (fun _=>Fu.ok) fun _=>Fu.ite (fun h=>?_) fun _=>Fu.ite (fun h=>Fu.bd (ih.ref _ hi (by omega)) fun r j hj=>Fu.ok) fun _=>Fu.ite (fun h=>Fu.bd (ih.unary _ hi (by omega)) fun a j hj=>Fu.ok) fun _=>Fu.wrong
   have:=sees_lt h
   refine Fu.bd Fu.need fun u j hj=>?_
   have h1:=need_top hj
   exact Fu.bd (ih.expr _ _ h1.1 (by omega)) fun a k hk=>Fu.bd Fu.need fun u m hm=>Fu.ok
end Go.Proofs.YtpoghableadkcaaGreatDoor
end
section
/- Words that stand in a longer row of words are read as the same expression. -/
namespace Go.Proofs.YtpoghableadkcaaGreatDoor
set_option linter.unusedVariables false
set_option linter.unusedSimpArgs false

/-- The words of E stand in E' from d on;behind them is nothing,or the word e. -/
structure Sim (E E':Env) (d:Nat) (e:Bs):Prop where
 tok:∀ i,i < E.L.length→kindAt E' (i + d)=kindAt E i∧textAt E' (i + d)=textAt E i∧numAt E' (i + d)=numAt E i
 stop:kindAt E' (E.L.length + d)=0∨(kindAt E' (E.L.length + d)=4∧textAt E' (E.L.length + d)=e)
 len:E.L.length + d ≤ E'.L.length

/-- What is read here is read there. -/
def Sm {A:Type} (d:Nat) (r r':R A):Prop:=∀ a j,r=.ok a j→r'=.ok a (j + d)
section
variable {A B:Type} {E E':Env} {d:Nat} {e:Bs} {r r':R A}
theorem Sm.bd {f f':A→Nat→R B} (h:Sm d r r') (k:∀ a j,r=.ok a j→Sm d (f a j) (f' a (j + d))):Sm d (r.bd f) (r'.bd f'):=by
 intro b m hb
 cases r with
 | out=>cases hb
 | bad c a=>cases hb
 | ok a j=>rw [h a j rfl];exact k a j rfl b m hb
theorem Sm.ok {a:A} {j:Nat}:Sm d (.ok a j) (.ok a (j + d)):=by
 intro b m h
 injection h with h1 h2
 rw [h1,h2]
theorem Sm.ok' {a a':A} {j j':Nat} (h:a=a') (hj:j'=j + d):Sm d (.ok a j) (.ok a' j'):=by subst h;subst hj;exact Sm.ok
theorem Sm.wrong {i:Nat}:Sm d (wrong E i) r':=by rw [wrong_eq];exact fun _ _ h=>by cases h
theorem Sm.ite {c c':Prop} [Decidable c] [Decidable c'] {x y x' y':R A} (hc:c' ↔ c) (hx:c→Sm d x x') (hy:¬ c→Sm d y y'):Sm d (if c then x else y) (if c' then x' else y'):=by
 by_cases h:c
 ·rw [if_pos h,if_pos (hc.2 h)];exact hx h
 ·rw [if_neg h,if_neg (fun h'=>h (hc.1 h'))];exact hy h
theorem Sm.none (h:∀ a j,r ≠ .ok a j):Sm d r r':=fun a j e=>absurd e (h a j)

theorem sees_end {l:List Bs} {i:Nat} (h:E.L.length ≤ i):sees E i l=false:=by
 cases hs:sees E i l with
 | false=>rfl
 | true=>have:=sees_lt hs;omega
theorem kind_end {i:Nat} (h:E.L.length ≤ i):kindAt E i=0:=by
 by_cases h0:kindAt E i=0
 ·exact h0
 ·have:=kind_lt h0;omega
theorem Sim.seesLt (S:Sim E E' d e) {i:Nat} (h:i < E.L.length) (l:List Bs):sees E' (i + d) l=sees E i l:=by
 unfold sees
 obtain ⟨h1,h2,_⟩:=S.tok i h
 rw [h1,h2]
theorem Sim.sees (S:Sim E E' d e) {i:Nat} (h:i ≤ E.L.length) {l:List Bs} (hl:l.contains e=false):sees E' (i + d) l=Go.Proofs.YtpoghableadkcaaGreatDoor.sees E i l:=by
 by_cases h':i < E.L.length
 ·exact S.seesLt h' l
 ·obtain rfl:i=E.L.length:=by omega
  rw [sees_end (E:=E) (Nat.le_refl _)]
  unfold Go.Proofs.YtpoghableadkcaaGreatDoor.sees
  rcases S.stop with h1 | ⟨h1,h2⟩
  ·rw [h1];rfl
  ·rw [h2,hl,Bool.and_false]
theorem Sim.kind (S:Sim E E' d e) {i:Nat} (h:i ≤ E.L.length) {k:Nat} (h0:k ≠ 0) (h4:k ≠ 4):kindAt E' (i + d)=k ↔ kindAt E i=k:=by
 by_cases h':i < E.L.length
 ·rw [(S.tok i h').1]
 ·obtain rfl:i=E.L.length:=by omega
  rw [kind_end (E:=E) (Nat.le_refl _)]
  rcases S.stop with h1 | ⟨h1,h2⟩
  ·rw [h1]
  ·rw [h1];constructor <;> intro h <;> omega
theorem Sim.need (S:Sim E E' d e) (s:Bs) (i:Nat):Sm d (need E s i) (need E' s (i + d)):=by
 unfold Go.Proofs.YtpoghableadkcaaGreatDoor.need
 by_cases h:Go.Proofs.YtpoghableadkcaaGreatDoor.sees E i [s]=true
 ·rw [if_pos h,if_pos (by rw [S.seesLt (sees_lt h)];exact h)]
  exact Sm.ok' rfl (by omega)
 ·rw [if_neg h];exact Sm.wrong
theorem Sim.pid (S:Sim E E' d e) (i:Nat):Sm d (pid E i) (pid E' (i + d)):=by
 unfold Go.Proofs.YtpoghableadkcaaGreatDoor.pid
 by_cases h:kindAt E i=1
 ·have hl:=kind_lt (E:=E) (i:=i) (by omega)
  rw [if_pos h,if_pos (by rw [(S.tok i hl).1];exact h),(S.tok i hl).2.1]
  exact Sm.ok' rfl (by omega)
 ·rw [if_neg h];exact Sm.wrong
theorem Sim.lev (S:Sim E E' d e) {i:Nat} (h:i ≤ E.L.length) (hl:∀ l ∈ levelsL,l.contains e=false):levAt E' (i + d)=levAt E i:=by
 unfold levAt
 have:levelsL.findIdx (fun l=>Go.Proofs.YtpoghableadkcaaGreatDoor.sees E' (i + d) l)=levelsL.findIdx (fun l=>Go.Proofs.YtpoghableadkcaaGreatDoor.sees E i l):=by
  have hm:∀ l ∈ levelsL,Go.Proofs.YtpoghableadkcaaGreatDoor.sees E' (i + d) l=Go.Proofs.YtpoghableadkcaaGreatDoor.sees E i l:=fun l hm=>S.sees h (hl l hm)
  revert hm
  generalize levelsL=L
  intro hm
  induction L with
  | nil=>rfl
  | cons a L ih=>
   rw [List.findIdx_cons,List.findIdx_cons,hm a (by simp),ih fun l h=>hm l (by simp [h])]
 rw [this]
theorem lev_pos {i lvl:Nat} (h:lvl < levAt E i):i < E.L.length:=by
 by_cases h':i < E.L.length
 ·exact h'
 ·exfalso
  unfold levAt at h
  have hn:∀ l,Go.Proofs.YtpoghableadkcaaGreatDoor.sees E i l=false:=fun l=>sees_end (by omega)
  simp only [hn] at h
  rw [show levelsL.findIdx (fun _=>false)=10 by decide] at h
  simp at h

theorem Sim.commas (S:Sim E E' d e) (he:[[44]].contains e=false) {one one':Nat→R A} (ho:∀ i,i ≤ E.L.length→Sm d (one i) (one' (i + d))) (ht:∀ i,Tp E (one i)):∀ (g i:Nat),i ≤ E.L.length→Sm d (commas E one g i) (commas E' one' g (i + d))
 | 0,i,h=>Sm.none fun a j h=>by cases h
 | g + 1,i,h=>by
  rw [Go.Proofs.YtpoghableadkcaaGreatDoor.commas,Go.Proofs.YtpoghableadkcaaGreatDoor.commas]
  refine Sm.ite (by rw [S.sees h he]) (fun hs=>?_) fun _=>Sm.ok
  have h1:=sees_lt hs
  rw [show i + d + 1=i + 1 + d by omega]
  exact Sm.bd (ho _ h1) fun a j hj=>Sm.bd (Sim.commas S he ho ht g j (ht _ _ _ hj)) fun l k hk=>Sm.ok
theorem Sim.many (S:Sim E E' d e) (he:[[44]].contains e=false) {one one':Nat→R A} (ho:∀ i,i ≤ E.L.length→Sm d (one i) (one' (i + d))) (ht:∀ i,Tp E (one i)) (g i:Nat) (h:i ≤ E.L.length):Sm d (many E one g i) (many E' one' g (i + d)):=by
 unfold Go.Proofs.YtpoghableadkcaaGreatDoor.many
 exact Sm.bd (ho _ h) fun a j hj=>Sm.bd (S.commas he ho ht g j (ht _ _ _ hj)) fun l k hk=>Sm.ok
theorem Sim.within (S:Sim E E' d e) (he:[[44]].contains e=false) {one one':Nat→R A} (ho:∀ i,i ≤ E.L.length→Sm d (one i) (one' (i + d))) (ht:∀ i a k,one i=.ok a k→i < k∧k ≤ E.L.length) (g i:Nat):Sm d (within E one g i) (within E' one' g (i + d)):=by
 unfold Go.Proofs.YtpoghableadkcaaGreatDoor.within
 have ht':∀ i,Tp E (one i):=fun i a k h=>(ht i a k h).2
 refine Sm.bd (S.need _ _) fun u j hj=>?_
 have h1:=need_top hj
 by_cases hl:j < E.L.length
 ·refine Sm.ite (by rw [S.seesLt hl]) (fun _=>Sm.ok' rfl (by omega)) fun _=>?_
  exact Sm.bd (S.many he ho ht' g j h1.1) fun l k hk=>Sm.bd (S.need _ _) fun u m hm=>Sm.ok
 ·refine Sm.none fun a k hk=>?_
  rw [if_neg (by rw [sees_end (by omega)];decide)] at hk
  cases ho1:one j with
  | out=>unfold Go.Proofs.YtpoghableadkcaaGreatDoor.many at hk;rw [ho1] at hk;cases hk
  | bad c a=>unfold Go.Proofs.YtpoghableadkcaaGreatDoor.many at hk;rw [ho1] at hk;cases hk
  | ok a m=>have:=ht _ _ _ ho1;omega
theorem Sim.message (S:Sim E E' d e) (he:[[44]].contains e=false) (he2:[[40]].contains e=false) {one one':Nat→R A} (ho:∀ i,i ≤ E.L.length→Sm d (one i) (one' (i + d))) (ht:∀ i,Tp E (one i)) (g i:Nat) (h:i ≤ E.L.length):Sm d (message E one g i) (message E' one' g (i + d)):=by
 unfold Go.Proofs.YtpoghableadkcaaGreatDoor.message
 refine Sm.bd (ho _ h) fun a j hj=>?_
 have hj':=ht _ _ _ hj
 refine Sm.ite (by rw [S.sees hj' he2]) (fun hs=>?_) fun _=>?_
 ·have:=sees_lt hs
  rw [show j + d + 1=j + 1 + d by omega]
  exact Sm.bd (S.many he ho ht g _ (by omega)) fun l k hk=>Sm.bd (S.need _ _) fun u m hm=>Sm.ok
 ·exact Sm.bd (S.commas he ho ht g j hj') fun l k hk=>Sm.ok
end

/-- A word that no expression goes on with. -/
structure Ends (e:Bs):Prop where
 comma:[[44]].contains e=false
 paren:[[40]].contains e=false
 levs:∀ l ∈ levelsL,l.contains e=false
 una:[[33],[126],[45]].contains e=false
 arrow:[[45,62]].contains e=false
 tru:[[116,114,117,101]].contains e=false
 fal:[[102,97,108,115,101]].contains e=false
 run:[[114,117,110]].contains e=false
 words:[[116,105,109,101,111,117,116],[110,112,95],[95,112,105,100],[95,110,114,95,112,114]].contains e=false
 lens:[[108,101,110],[102,117,108,108],[101,109,112,116,121],[110,102,117,108,108],[110,101,109,112,116,121]].contains e=false
 at_:[[64]].contains e=false
 ask:[[63],[63,63]].contains e=false
 open_:[[91]].contains e=false
 dot:[[46]].contains e=false
 any:[[95]].contains e=false
 eval:[[101,118,97,108]].contains e=false
 minus:[[45],[116,114,117,101],[102,97,108,115,101]].contains e=false
theorem ends_semi:Ends [59]:=by constructor <;> decide
theorem ends_close:Ends [41]:=by constructor <;> decide

structure SimE (E E':Env) (d f:Nat):Prop where
 expr:∀ lvl i,i ≤ E.L.length→Sm d (expr E f lvl i) (expr E' f lvl (i + d))
 go:∀ lvl a i,i ≤ E.L.length→Sm d (exprGo E f lvl a i) (exprGo E' f lvl a (i + d))
 unary:∀ i,i ≤ E.L.length→Sm d (unary E f i) (unary E' f (i + d))
 bracket:∀ i,i ≤ E.L.length→Sm d (bracket E f i) (bracket E' f (i + d))
 choice:∀ a i,i ≤ E.L.length→Sm d (choice E f a i) (choice E' f a (i + d))
 primary:∀ i,i ≤ E.L.length→Sm d (primary E f i) (primary E' f (i + d))
 named:∀ i,i ≤ E.L.length→Sm d (named E f i) (named E' f (i + d))
 ref:∀ i,i ≤ E.L.length→Sm d (ref E f i) (ref E' f (i + d))
 arg:∀ i,i ≤ E.L.length→Sm d (arg E f i) (arg E' f (i + d))
theorem simE {E E':Env} {d:Nat} {e:Bs} (S:Sim E E' d e) (N:Ends e):∀ f,SimE E E' d f
 | 0=>by constructor <;> intros <;> refine Sm.none fun a j h=>?_ <;> simp [Go.Proofs.YtpoghableadkcaaGreatDoor.expr,exprGo,Go.Proofs.YtpoghableadkcaaGreatDoor.unary,Go.Proofs.YtpoghableadkcaaGreatDoor.bracket,Go.Proofs.YtpoghableadkcaaGreatDoor.choice,Go.Proofs.YtpoghableadkcaaGreatDoor.primary,Go.Proofs.YtpoghableadkcaaGreatDoor.named,Go.Proofs.YtpoghableadkcaaGreatDoor.ref,Go.Proofs.YtpoghableadkcaaGreatDoor.arg] at h
 | f + 1=>by
  have ih:=simE S N f
  have ad:=advE E f
  have tp:=topE E f
  have pe:∀ i a k,Go.Proofs.YtpoghableadkcaaGreatDoor.expr E f 0 i=.ok a k→i < k∧k ≤ E.L.length:=fun i a k h=>⟨ad.expr h,tp.expr _ _ _ _ h⟩
  have tx:∀ {i},i < E.L.length→textAt E' (i + d)=textAt E i:=fun h=>(S.tok _ h).2.1
  constructor
  ·intro lvl i hi
   rw [Go.Proofs.YtpoghableadkcaaGreatDoor.expr,Go.Proofs.YtpoghableadkcaaGreatDoor.expr]
   exact Sm.bd (ih.unary _ hi) fun a j hj=>ih.go _ _ _ (tp.unary _ _ _ hj)
  ·intro lvl a i hi
   rw [exprGo,exprGo,S.lev hi N.levs]
   refine Sm.ite Iff.rfl (fun hl=>?_) fun _=>Sm.ok
   have h1:=lev_pos hl
   rw [show i + d + 1=i + 1 + d by omega,tx h1]
   exact Sm.bd (ih.expr _ _ h1) fun b j hj=>ih.go _ _ _ (tp.expr _ _ _ _ hj)
  ·intro i hi
   rw [Go.Proofs.YtpoghableadkcaaGreatDoor.unary,Go.Proofs.YtpoghableadkcaaGreatDoor.unary]
   refine Sm.ite (by rw [S.sees hi N.una]) (fun hs=>?_) fun _=>Sm.ite (by rw [S.sees hi N.paren]) (fun hs=>?_) fun _=>ih.primary _ hi
   ·have h1:=sees_lt hs
    rw [show i + d + 1=i + 1 + d by omega,tx h1]
    exact Sm.bd (ih.unary _ h1) fun a j hj=>Sm.ok
   ·have h1:=sees_lt hs
    rw [show i + d + 1=i + 1 + d by omega]
    exact ih.bracket _ h1
  ·intro i hi
   rw [Go.Proofs.YtpoghableadkcaaGreatDoor.bracket,Go.Proofs.YtpoghableadkcaaGreatDoor.bracket]
   refine Sm.bd (ih.expr _ _ hi) fun a j hj=>?_
   have h1:=tp.expr _ _ _ _ hj
   refine Sm.ite (by rw [S.sees h1 N.arrow]) (fun hs=>?_) fun _=>Sm.bd (S.need _ _) fun u m hm=>Sm.ok
   have h2:=sees_lt hs
   rw [show j + d + 1=j + 1 + d by omega]
   exact Sm.bd (ih.choice _ _ h2) fun b k hk=>Sm.bd (S.need _ _) fun u m hm=>Sm.ok
  ·intro a i hi
   rw [Go.Proofs.YtpoghableadkcaaGreatDoor.choice,Go.Proofs.YtpoghableadkcaaGreatDoor.choice]
   refine Sm.bd (ih.expr _ _ hi) fun b j hj=>Sm.bd (S.need _ _) fun u k hk=>?_
   exact Sm.bd (ih.expr _ _ (need_top hk).1) fun c m hm=>Sm.ok
  ·intro i hi
   rw [Go.Proofs.YtpoghableadkcaaGreatDoor.primary,Go.Proofs.YtpoghableadkcaaGreatDoor.primary]
   refine Sm.ite (S.kind hi (by decide) (by decide)) (fun hk=>?_) fun _=>Sm.ite (S.kind hi (by decide) (by decide)) (fun _=>ih.named _ hi) fun _=>Sm.ite (by rw [S.sees hi N.tru]) (fun _=>Sm.ok' rfl (by omega)) fun _=>Sm.ite (by rw [S.sees hi N.fal]) (fun _=>Sm.ok' rfl (by omega)) fun _=>Sm.ite (by rw [S.sees hi N.run]) (fun hs=>?_) fun _=>Sm.ite (by rw [S.sees hi N.words]) (fun hs=>?_) fun _=>Sm.ite (by rw [S.sees hi N.lens]) (fun hs=>?_) fun _=>Sm.wrong
   ·rw [(S.tok i (kind_lt (by omega))).2.2]
    exact Sm.ok' rfl (by omega)
   ·rw [show i + d + 1=i + 1 + d by omega]
    exact Sm.bd (S.pid _) fun n j hj=>Sm.bd (S.within N.comma (fun k hk=>ih.expr _ _ hk) pe _ _) fun l k hk=>Sm.ok
   ·rw [tx (sees_lt hs)]
    exact Sm.ok' rfl (by omega)
   ·rw [show i + d + 1=i + 1 + d by omega,tx (sees_lt hs)]
    exact Sm.bd (S.need _ _) fun u j hj=>Sm.bd (ih.ref _ (need_top hj).1) fun r k hk=>Sm.bd (S.need _ _) fun u m hm=>Sm.ok
  ·intro i hi
   rw [Go.Proofs.YtpoghableadkcaaGreatDoor.named,Go.Proofs.YtpoghableadkcaaGreatDoor.named]
   refine Sm.bd (ih.ref _ hi) fun r j hj=>?_
   have h1:=tp.ref _ _ _ hj
   refine Sm.ite (by rw [S.sees h1 N.at_]) (fun hs=>?_) fun _=>Sm.ite ?_ (fun hs=>?_) fun _=>Sm.ok
   ·rw [show j + d + 1=j + 1 + d by omega]
    exact Sm.bd (S.pid _) fun l k hk=>Sm.ok
   ·rw [S.sees h1 N.ask]
    cases hq:sees E j [[63],[63,63]] with
    | false=>simp
    | true=>
     have h2:=sees_lt hq
     rw [show j + d + 1=j + 1 + d by omega,S.sees h2 N.open_]
   ·simp only [Bool.and_eq_true] at hs
    have h2:=sees_lt hs.1
    have h3:=sees_lt hs.2
    rw [show j + d + 2=j + 2 + d by omega,tx h2]
    exact Sm.bd (S.message N.comma N.paren (fun k hk=>ih.arg _ hk) (fun k=>tp.arg k) _ _ h3) fun l k hk=>Sm.bd (S.need _ _) fun u m hm=>Sm.ok
  ·intro i hi
   rw [Go.Proofs.YtpoghableadkcaaGreatDoor.ref,Go.Proofs.YtpoghableadkcaaGreatDoor.ref]
   refine Sm.bd (S.pid _) fun n j hj=>?_
   have h1:=(pid_top hj).1
   refine Sm.bd ?_ fun p k hk=>?_
   ·refine Sm.ite (by rw [S.sees h1 N.open_]) (fun hs=>?_) fun _=>Sm.ok
    rw [show j + d + 1=j + 1 + d by omega]
    exact Sm.bd (ih.expr _ _ (sees_lt hs)) fun a k hk=>Sm.bd (S.need _ _) fun u m hm=>Sm.ok
   ·have h2:k ≤ E.L.length:=by
     refine Tp.ite (c:=sees E j [[91]]=true) (E:=E) (fun h=>?_) (fun _=>Tp.ok h1) _ _ hk
     exact Tp.bd fun a k hk=>Tp.bd fun u m hm=>Tp.ok (need_top hm).1
    refine Sm.ite (by rw [S.sees h2 N.dot]) (fun hs=>?_) fun _=>Sm.ok
    rw [show k + d + 1=k + 1 + d by omega]
    exact Sm.bd (ih.ref _ (sees_lt hs)) fun r m hm=>Sm.ok
  ·intro i hi
   rw [Go.Proofs.YtpoghableadkcaaGreatDoor.arg,Go.Proofs.YtpoghableadkcaaGreatDoor.arg]
   refine Sm.ite (by rw [S.sees hi N.any]) (fun hs=>Sm.ok' rfl (by omega)) fun _=>Sm.ite (by rw [S.sees hi N.eval]) (fun hs=>?_) fun _=>Sm.ite (S.kind hi (by decide) (by decide)) (fun _=>Sm.bd (ih.ref _ hi) fun r j hj=>Sm.ok) fun _=>Sm.ite ?_ (fun _=>Sm.bd (ih.unary _ hi) fun a j hj=>Sm.ok) fun _=>Sm.wrong
   ·rw [show i + d + 1=i + 1 + d by omega]
    exact Sm.bd (S.need _ _) fun u j hj=>Sm.bd (ih.expr _ _ (need_top hj).1) fun a k hk=>Sm.bd (S.need _ _) fun u m hm=>Sm.ok
   ·rw [S.sees hi N.minus,Bool.or_eq_true,Bool.or_eq_true,decide_eq_true_eq,decide_eq_true_eq,S.kind hi (by decide) (by decide)]
end Go.Proofs.YtpoghableadkcaaGreatDoor
end
section
/- The walks of expressions: what all share; unary, turned. -/
namespace Go.Proofs.YtpoghableadkcaaGreatDoor
open Go.RowKit
set_option linter.unusedVariables false
set_option linter.unusedSimpArgs false

/-- Blocks of P,and new ones. -/
abbrev Or2 (P:Nat→Prop) (w:World):Nat→Prop:=fun k=>P k∨w.heap.size ≤ k
/-- The contracts of what reads expressions,at one fuel. -/
structure ExprOk (E:Env) (f:Nat):Prop where
 expr:∀ {w:World} {p i lvl:Nat} {vl:Value},Par w p vl E i→lvl ≤ 10→expr E f lvl i ≠ .out→Calls Tryz.prog 29 #[.pointer (some ⟨p,0,none⟩),.int .i64 (lvl:Int)] w (Out p vl E w (AstV (From w.heap.size)) (expr E f lvl i))
 unary:∀ {w:World} {p i:Nat} {vl:Value},Par w p vl E i→unary E f i ≠ .out→Calls Tryz.prog 68 #[.pointer (some ⟨p,0,none⟩)] w (Out p vl E w (AstV (From w.heap.size)) (unary E f i))
 bracket:∀ {w:World} {p i:Nat} {vl:Value},Par w p vl E i→bracket E f i ≠ .out→Calls Tryz.prog 113 #[.pointer (some ⟨p,0,none⟩)] w (Out p vl E w (AstV (From w.heap.size)) (bracket E f i))
 choice:∀ {w:World} {p i:Nat} {P:Nat→Prop} {vl v:Value} {a:Ast},Par w p vl E i→AstV P w v a→¬ P p→choice E f a i ≠ .out→Calls Tryz.prog 143 #[.pointer (some ⟨p,0,none⟩),v] w (Out p vl E w (AstV (Or2 P w)) (choice E f a i))
 primary:∀ {w:World} {p i:Nat} {vl:Value},Par w p vl E i→primary E f i ≠ .out→Calls Tryz.prog 114 #[.pointer (some ⟨p,0,none⟩)] w (Out p vl E w (AstV (From w.heap.size)) (primary E f i))
 named:∀ {w:World} {p i:Nat} {vl:Value},Par w p vl E i→named E f i ≠ .out→Calls Tryz.prog 144 #[.pointer (some ⟨p,0,none⟩)] w (Out p vl E w (AstV (From w.heap.size)) (named E f i))
 ref:∀ {w:World} {p i:Nat} {vl:Value},Par w p vl E i→ref E f i ≠ .out→Calls Tryz.prog 147 #[.pointer (some ⟨p,0,none⟩)] w (Out p vl E w (RfV (From w.heap.size)) (ref E f i))
 arg:∀ {w:World} {p i:Nat} {vl:Value},Par w p vl E i→arg E f i ≠ .out→Calls Tryz.prog 161 #[.pointer (some ⟨p,0,none⟩)] w (Out p vl E w (ArgV (From w.heap.size)) (arg E f i))

theorem Holds.fp {w w':World} {p b:Nat} {t:TypeId} {cs:List Value} (h:Holds w b t cs) (hf:Fp p w w') (hne:p < b):Holds w' b t cs:=Fr.holds hf h (by show ¬ b=p;omega)

section
variable {W:World} {b:Nat} {x0 x1 x2 x3 x4 x5 x6 x7 x8:Value}
/-- A box that an expression is stored in. -/
def set9 (W:World) (b:Nat) (x0 x1 x2 x3 x4 x5 x6 x7 x8:Value):World:=
 ((((((((W.setCell ⟨b,0,none⟩ x0).setCell ⟨b,1,none⟩ x1).setCell ⟨b,2,none⟩ x2).setCell ⟨b,3,none⟩ x3).setCell ⟨b,4,none⟩ x4).setCell ⟨b,5,none⟩ x5).setCell ⟨b,6,none⟩ x6).setCell ⟨b,7,none⟩ x7).setCell ⟨b,8,none⟩ x8
theorem Holds.set9 {t:TypeId} {y0 y1 y2 y3 y4 y5 y6 y7 y8:Value} (h:Holds W b t [y0,y1,y2,y3,y4,y5,y6,y7,y8]):Holds (set9 W b x0 x1 x2 x3 x4 x5 x6 x7 x8) b t [x0,x1,x2,x3,x4,x5,x6,x7,x8]:=
 ((((((((h.put 0 x0).put 1 x1).put 2 x2).put 3 x3).put 4 x4).put 5 x5).put 6 x6).put 7 x7).put 8 x8
theorem Up.set9 {lo:Nat} {a:World} (h:Up lo a W) (hb:b < lo∨a.heap.size ≤ b):Up lo a (set9 W b x0 x1 x2 x3 x4 x5 x6 x7 x8):=
 ((((((((h.set hb 0 x0).set hb 1 x1).set hb 2 x2).set hb 3 x3).set hb 4 x4).set hb 5 x5).set hb 6 x6).set hb 7 x7).set hb 8 x8
theorem Fp.far {p:Nat} {a w:World} (h:Fp p a w) {b:Nat} (hb:a.heap.size ≤ b) (i:Nat) (u:Value):Fp p a (w.setCell ⟨b,i,none⟩ u):=Fr.setCell h (fun hk=>absurd hk (Nat.not_lt.2 hb)) u
theorem Fp.set9 {p:Nat} {a:World} (h:Fp p a W) (hb:a.heap.size ≤ b):Fp p a (set9 W b x0 x1 x2 x3 x4 x5 x6 x7 x8):=
 ((((((((h.far hb 0 x0).far hb 1 x1).far hb 2 x2).far hb 3 x3).far hb 4 x4).far hb 5 x5).far hb 6 x6).far hb 7 x7).far hb 8 x8
theorem Par.set9 {p i:Nat} {vl:Value} {E:Env} (h:Par W p vl E i) (hb:p < b):Par (set9 W b x0 x1 x2 x3 x4 x5 x6 x7 x8) p vl E i:=
 ((((((((h.far (a:=⟨b,0,none⟩) hb x0).far (a:=⟨b,1,none⟩) hb x1).far (a:=⟨b,2,none⟩) hb x2).far (a:=⟨b,3,none⟩) hb x3).far (a:=⟨b,4,none⟩) hb x4).far (a:=⟨b,5,none⟩) hb x5).far (a:=⟨b,6,none⟩) hb x6).far (a:=⟨b,7,none⟩) hb x7).far (a:=⟨b,8,none⟩) hb x8
theorem Holds.cells9 {t:TypeId} (h:Holds W b t [x0,x1,x2,x3,x4,x5,x6,x7,x8]):W.cell? ⟨b,0,none⟩=some x0∧W.cell? ⟨b,1,none⟩=some x1∧W.cell? ⟨b,2,none⟩=some x2∧W.cell? ⟨b,3,none⟩=some x3∧W.cell? ⟨b,4,none⟩=some x4∧W.cell? ⟨b,5,none⟩=some x5∧W.cell? ⟨b,6,none⟩=some x6∧W.cell? ⟨b,7,none⟩=some x7∧W.cell? ⟨b,8,none⟩=some x8:=
 ⟨h.cell 0,h.cell 1,h.cell 2,h.cell 3,h.cell 4,h.cell 5,h.cell 6,h.cell 7,h.cell 8⟩
theorem Holds.free9 {t:TypeId} {cs:List Value} (h:Holds W b t cs):W.frozen? ⟨b,0,none⟩=false∧W.frozen? ⟨b,1,none⟩=false∧W.frozen? ⟨b,2,none⟩=false∧W.frozen? ⟨b,3,none⟩=false∧W.frozen? ⟨b,4,none⟩=false∧W.frozen? ⟨b,5,none⟩=false∧W.frozen? ⟨b,6,none⟩=false∧W.frozen? ⟨b,7,none⟩=false∧W.frozen? ⟨b,8,none⟩=false:=
 ⟨h.free 0,h.free 1,h.free 2,h.free 3,h.free 4,h.free 5,h.free 6,h.free 7,h.free 8⟩
theorem out9 {fn:Func} {s:Nat} {tmps:Array Value} (hf:fn.results=#[.cell s 41]) (h:Holds W b 41 [x0,x1,x2,x3,x4,x5,x6,x7,x8]) (hs:tmps[s]?.getD undef=.pointer (some ⟨b,0,none⟩)):
  (results fn tmps).run Tryz.prog W=.ok (.agg #[x0,x1,x2,x3,x4,x5,x6,x7,x8]) W:=by
 obtain ⟨d0,d1,d2,d3,d4,d5,d6,d7,d8⟩:=h.cells9
 simp [results,hf,hs,go_sem,d0,d1,d2,d3,d4,d5,d6,d7,d8]
end

theorem sees0 {w:World} {p:Nat} {vl:Value} {E:Env} {i:Nat} (h:Par w p vl E i) {b:Nat} (l:List Bs) (hl:Holds w b 9 (l.map strV)) (hs:l.length ≤ 65536):
  Calls Tryz.prog 48 #[.pointer (some ⟨p,0,none⟩),.int .i64 0,.slice (some ⟨b,0,none⟩) l.length l.length] w fun e w'=>e=.returned (.bool (sees E i l))∧Below w.heap.size w w':=seesFn h 0 (by omega) l hl hs
theorem sees1 {w:World} {p:Nat} {vl:Value} {E:Env} {i:Nat} (h:Par w p vl E i) {b:Nat} (l:List Bs) (hl:Holds w b 9 (l.map strV)) (hs:l.length ≤ 65536):
  Calls Tryz.prog 48 #[.pointer (some ⟨p,0,none⟩),.int .i64 1,.slice (some ⟨b,0,none⟩) l.length l.length] w fun e w'=>e=.returned (.bool (sees E (i + 1) l))∧Below w.heap.size w w':=seesFn h 1 (by omega) l hl hs
/-- The end of a method that stores an expression as its answer. -/
theorem ast_end {fn:Func} {s:Nat} (hf:fn.results=#[.cell s 41]) {w W:World} {p j b lo:Nat} {vl:Value} {E:Env} {a:Act} {x0 x1 x2 x3 y0 y1 y2 y3 y4 y5 y6 y7 y8 vn vi vh vk va:Value} {x:Ast} {r:R Ast}
  (hs:a.tmps[s]?.getD undef=.pointer (some ⟨b,0,none⟩)) (hd:a.defers=[])
  (hH:Holds W b 41 [y0,y1,y2,y3,y4,y5,y6,y7,y8]) (hv:AstF (From lo) W x vn vi vh vk va) (hlo:b < lo) (hw:w.heap.size ≤ b) (hp:p < w.heap.size) (HP:Par W p vl E j) (HF:Fp p w W) (hR:r=.ok x j)
  (h0:x0=.int .i64 (x.kind:Int)) (h1:x1=.int .i64 x.n) (h2:x2=.string ⟨x.name.toArray⟩) (h3:x3=.string ⟨x.label.toArray⟩):
  bodyPost Tryz.prog fn (Out p vl E w (AstV (From w.heap.size)) r) Exit.ret a (set9 W b x0 x1 x2 x3 vn vi vh vk va):=by
 refine bodyPost_ret (out9 hf hH.set9 hs) hd ?_
 rw [hR,h0,h1,h2,h3]
 exact ⟨_,rfl,⟨vn,vi,vh,vk,va,rfl,(hv.up (Up.keep ((Up.refl lo W).set9 (.inl hlo)))).mono (Wide.from (by omega))⟩,HP.set9 (by omega),HF.set9 hw⟩

theorem Keep.set9 {P:Nat→Prop} {W:World} {b:Nat} {x0 x1 x2 x3 x4 x5 x6 x7 x8:Value} (hb:¬ P b):Keep P W (set9 W b x0 x1 x2 x3 x4 x5 x6 x7 x8):=fun k hk hs=>by
 have h:Fp b W (Go.Proofs.YtpoghableadkcaaGreatDoor.set9 W b x0 x1 x2 x3 x4 x5 x6 x7 x8):=(((((((((Fp.refl b W).set 0 x0).set 1 x1).set 2 x2).set 3 x3).set 4 x4).set 5 x5).set 6 x6).set 7 x7).set 8 x8
 exact h.block k hs fun e=>hb (e ▸ hk)
theorem Keep.of_fp {P:Nat→Prop} {p:Nat} {w w':World} (h:Fp p w w') (hp:¬ P p):Keep P w w':=fun k hk hs=>h.block k hs fun e=>hp (e ▸ hk)
/-- The same,wherever the rows lie. -/
theorem ast_end2 {fn:Func} {s:Nat} (hf:fn.results=#[.cell s 41]) {w W:World} {p j b:Nat} {P:Nat→Prop} {vl:Value} {E:Env} {a:Act} {x0 x1 x2 x3 y0 y1 y2 y3 y4 y5 y6 y7 y8 vn vi vh vk va:Value} {x:Ast} {r:R Ast}
  (hs:a.tmps[s]?.getD undef=.pointer (some ⟨b,0,none⟩)) (hd:a.defers=[])
  (hH:Holds W b 41 [y0,y1,y2,y3,y4,y5,y6,y7,y8]) (hv:AstF P W x vn vi vh vk va) (hnb:¬ P b) (hP:∀ k,P k→w.heap.size ≤ k) (hw:w.heap.size ≤ b) (hp:p < w.heap.size) (HP:Par W p vl E j) (HF:Fp p w W) (hR:r=.ok x j)
  (h0:x0=.int .i64 (x.kind:Int)) (h1:x1=.int .i64 x.n) (h2:x2=.string ⟨x.name.toArray⟩) (h3:x3=.string ⟨x.label.toArray⟩):
  bodyPost Tryz.prog fn (Out p vl E w (AstV (From w.heap.size)) r) Exit.ret a (set9 W b x0 x1 x2 x3 vn vi vh vk va):=by
 refine bodyPost_ret (out9 hf hH.set9 hs) hd ?_
 rw [hR,h0,h1,h2,h3]
 exact ⟨_,rfl,⟨vn,vi,vh,vk,va,rfl,(hv.up (Keep.set9 hnb)).mono (fun k hk _=>hP k hk)⟩,HP.set9 (by omega),HF.set9 hw⟩
theorem AstF.nils {P:Nat→Prop} {w:World} {k:Nat} {n:Int} {s t:Bs}:AstF P w (.mk k n s t [] [] [] [] []) (.slice none 0 0) (.slice none 0 0) (.slice none 0 0) (.slice none 0 0) (.slice none 0 0):=by
 rw [AstF]
 exact ⟨RowL.nil _ _ _,⟨[],RowL.nil _ _ _,by rw [AstsF]⟩,RowL.nil _ _ _,⟨[],RowL.nil _ _ _,by rw [AstsF]⟩,⟨[],RowL.nil _ _ _,by rw [ArgsF]⟩⟩
/-- An expression with kids alone. -/
theorem AstF.kids {P:Nat→Prop} {w:World} {k:Nat} {n:Int} {s t:Bs} {l:List Ast} {v:Value} (h:AstsV P w v l):AstF P w (.mk k n s t [] [] [] l []) (.slice none 0 0) (.slice none 0 0) (.slice none 0 0) v (.slice none 0 0):=by
 rw [AstF]
 exact ⟨RowL.nil _ _ _,⟨[],RowL.nil _ _ _,by rw [AstsF]⟩,RowL.nil _ _ _,h,⟨[],RowL.nil _ _ _,by rw [ArgsF]⟩⟩
theorem AstsF.sing {P:Nat→Prop} {w:World} {a:Ast} {vn vi vh vk va:Value} (h:AstF P w a vn vi vh vk va):AstsF P w [a] (Ast.cells a vn vi vh vk va):=by
 rw [AstsF]
 exact ⟨_,_,_,_,_,[],by rw [List.append_nil],h,by rw [AstsF]⟩

set_option maxHeartbeats 400000 in
set_option maxRecDepth 100000 in
theorem turnedFn {E:Env} {f:Nat} (ih:ExprOk E f) {w:World} {p i:Nat} {vl:Value} (hP:Par w p vl E i) (hlt:i < E.L.length) (hne:unary E f (i + 1) ≠ .out):
  Calls Tryz.prog 112 #[.pointer (some ⟨p,0,none⟩)] w (Out p vl E w (AstV (From w.heap.size)) ((unary E f (i + 1)).bd fun a j=>.ok (.una (textAt E i) a) j)):=by
 obtain ⟨Rr,hRr⟩:∃ Rr,((unary E f (i + 1)).bd fun a j=>R.ok (Ast.una (textAt E i) a) j)=Rr:=⟨_,rfl⟩
 rw [hRr]
 have hp1:=hP.lt
 have hfew:=hP.few
 have hi2:i ≤ 65536:=by omega
 have HI:=Lib.hid hlt
 have hb0:Below w.heap.size w (w.alloc (.cells #[.int .i64 0,.int .i64 0,.string ⟨#[]⟩,.string ⟨#[]⟩,.slice none 0 0,.slice none 0 0,.slice none 0 0,.slice none 0 0,.slice none 0 0] 41)):=(Below.refl _ _).alloc (Nat.le_refl _) _
 have HP0:=Lib.hid (hP.belowAll hb0)
 have HH0:=Lib.hid (Holds.new w 41 #[.int .i64 0,.int .i64 0,.string ⟨#[]⟩,.string ⟨#[]⟩,.slice none 0 0,.slice none 0 0,.slice none 0 0,.slice none 0 0,.slice none 0 0])
 have HF0:=Lib.hid (Fp.of_below (p:=p) hb0)
 have HW:=Lib.hid (wordFn HP0.out 0 (by omega))
 rw [Nat.add_zero] at HW
 have HT:=Lib.hid (textAt_tok (E:=E) (i:=i))
 generalize tokAt E i=t at *
 unfold tokV at HW
 have hfd:=field_tok1
 clear hP hb0 hlt hfew
 go_enter Tryz.func112,Tryz.ntmps112
 go_wp2_with (fail)
 refine (HW.out).mono ?_
 rintro e w1 ⟨rfl,hb⟩
 have hP1:=HP0.out.belowAll hb
 obtain ⟨c0,c1,c2,f2⟩:=hP1.cells
 have HP2:=Lib.hid (hP1.set1 HI.out)
 have HH2:=Lib.hid ((HH0.out.belowAll hb).far (p:=⟨p,2,none⟩) (show ¬ w.heap.size=p by omega) (.int .i64 ((i:Int) + 1)))
 have HF2:=Lib.hid ((HF0.out.bel hb).set 2 (.int .i64 ((i:Int) + 1)))
 clear hP1 hb HW
 have HC':=ih.unary HP2.out hne
 cases h1:unary E f (i + 1) with
 | out=>exact absurd h1 hne
 | bad c a=>
  rw [h1] at HC' hRr
  have HC:=Lib.hid HC'
  have HR:=Lib.hid hRr
  clear h1 HC' hne ih hRr
  go_wp2_with (fail)
  refine (HC.out).mono ?_
  rintro e w3 ⟨rfl,hF⟩
  rw [← HR.out]
  exact ⟨rfl,rfl,HF2.out.trans hF⟩
 | ok x k=>
  rw [h1] at HC' hRr
  have HC:=Lib.hid HC'
  have HR:=Lib.hid hRr
  clear h1 HC' hne ih hRr
  go_wp2_with (fail)
  refine (HC.out).mono ?_
  rintro e w3 ⟨v,rfl,⟨vn,vi,vh,vk,va,rfl,hv⟩,hP3,hF3⟩
  obtain ⟨z1,y1,x1,z2,y2,x2,z3,y3,x3,z4,y4,x4,z5,y5,x5,rfl,rfl,rfl,rfl,rfl⟩:=hv.forms
  obtain ⟨W4,hW4⟩:∃ W4,W4=w3.alloc (.cells #[.int .i64 (x.kind:Int),.int .i64 x.n,.string ⟨x.name.toArray⟩,.string ⟨x.label.toArray⟩,.slice z1 y1 x1,.slice z2 y2 x2,.slice z3 y3 x3,.slice z4 y4 x4,.slice z5 y5 x5] 41):=⟨_,rfl⟩
  have hb4:Below w3.heap.size w3 W4:=by rw [hW4];exact (Below.refl _ _).alloc (Nat.le_refl _) _
  have hK:=Holds.new w3 41 #[.int .i64 (x.kind:Int),.int .i64 x.n,.string ⟨x.name.toArray⟩,.string ⟨x.label.toArray⟩,.slice z1 y1 x1,.slice z2 y2 x2,.slice z3 y3 x3,.slice z4 y4 x4,.slice z5 y5 x5]
  rw [← hW4] at hK
  have hH4:=((HH2.out).fp hF3 (by omega)).belowAll hb4
  obtain ⟨d0,d1,d2,d3,d4,d5,d6,d7,d8⟩:=hH4.cells9
  obtain ⟨g0,g1,g2,g3,g4,g5,g6,g7,g8⟩:=hH4.free9
  have hlo:w.heap.size < (w1.setCell ⟨p,2,none⟩ (.int .i64 ((i:Int) + 1))).heap.size:=by have:=HH2.out.lt;exact this
  have hkv:AstF (From (w.heap.size + 1)) W4 (.una t.text x) (.slice none 0 0) (.slice none 0 0) (.slice none 0 0) (.slice (some ⟨w3.heap.size,0,none⟩) 1 1) (.slice none 0 0):=by
   have h1:=(hv.mono (Wide.from (a:=w.heap.size + 1) hlo)).up (Keep.below hb4)
   exact AstF.kids ⟨_,RowL.of_holds (size:=9) hK (show w.heap.size + 1 ≤ w3.heap.size from Nat.le_trans hlo hF3.size) (by simp) rfl,AstsF.sing h1⟩
  have HKV:=Lib.hid hkv
  have HH4:=Lib.hid hH4
  have HP4:=Lib.hid (hP3.belowAll hb4)
  have HF4:=Lib.hid ((HF2.out.trans hF3).bel hb4)
  unfold Ast.val
  rw [hW4] at d0 d1 d2 d3 d4 d5 d6 d7 d8 g0 g1 g2 g3 g4 g5 g6 g7 g8
  clear hb4 hK hH4 hkv hv hP3 hF3 HC HP2 HH2 HF2 hlo
  go_wp2
  rw [← hW4]
  exact ast_end Tryz.results112 rfl rfl HH4.out HKV.out (Nat.lt_succ_self _) (Nat.le_refl _) hp1 HP4.out HF4.out (by rw [← HR.out,HT.out];rfl) rfl rfl rfl rfl
end Go.Proofs.YtpoghableadkcaaGreatDoor
end
section
/- The walks of unary, full (printed by mkexp.py). -/
namespace Go.Proofs.YtpoghableadkcaaGreatDoor
open Go.RowKit
set_option linter.unusedVariables false
set_option linter.unusedSimpArgs false

set_option maxHeartbeats 2000000 in
set_option maxRecDepth 100000 in
theorem unaryFn {E:Env} {f:Nat} (ih:ExprOk E f) {w:World} {p i:Nat} {vl:Value} (hP:Par w p vl E i) (hne:unary E (f + 1) i ≠ .out):
  Calls Tryz.prog 68 #[.pointer (some ⟨p,0,none⟩)] w (Out p vl E w (AstV (From w.heap.size)) (unary E (f + 1) i)):=by

 have hp1:=hP.lt
 have hfew:=hP.few
 have hb0:Below w.heap.size w (w.alloc (.cells #[.int .i64 0,.int .i64 0,.string ⟨#[]⟩,.string ⟨#[]⟩,.slice none 0 0,.slice none 0 0,.slice none 0 0,.slice none 0 0,.slice none 0 0] 41)):=(Below.refl _ _).alloc (Nat.le_refl _) _
 have HP0:=Lib.hid (hP.belowAll hb0)
 have HB0:=Lib.hid (Holds.new w 41 #[.int .i64 0,.int .i64 0,.string ⟨#[]⟩,.string ⟨#[]⟩,.slice none 0 0,.slice none 0 0,.slice none 0 0,.slice none 0 0,.slice none 0 0])
 have HF0:=Lib.hid (Fp.of_below (p:=p) hb0)
 obtain ⟨Rr,hRr⟩:∃ Rr,unary E (f + 1) i=Rr:=⟨_,rfl⟩
 rw [hRr] at hne ⊢
 have HNE:=Lib.hid hne
 rw [unary] at hRr
 clear hP hb0 hne
 have hbr:Below (w.alloc (.cells #[.int .i64 0,.int .i64 0,.string ⟨#[]⟩,.string ⟨#[]⟩,.slice none 0 0,.slice none 0 0,.slice none 0 0,.slice none 0 0,.slice none 0 0] 41)).heap.size (w.alloc (.cells #[.int .i64 0,.int .i64 0,.string ⟨#[]⟩,.string ⟨#[]⟩,.slice none 0 0,.slice none 0 0,.slice none 0 0,.slice none 0 0,.slice none 0 0] 41)) ((w.alloc (.cells #[.int .i64 0,.int .i64 0,.string ⟨#[]⟩,.string ⟨#[]⟩,.slice none 0 0,.slice none 0 0,.slice none 0 0,.slice none 0 0,.slice none 0 0] 41)).alloc (.cells #[.string ⟨#[33]⟩,.string ⟨#[126]⟩,.string ⟨#[45]⟩] 9)):=(Below.refl _ _).alloc (Nat.le_refl _) _
 have HPr:=Lib.hid (HP0.out.belowAll hbr)
 have HFr:=Lib.hid (HF0.out.bel hbr)
 have HBr:=Lib.hid (HB0.out.belowAll hbr)
 have hlr:=Holds.new (w.alloc (.cells #[.int .i64 0,.int .i64 0,.string ⟨#[]⟩,.string ⟨#[]⟩,.slice none 0 0,.slice none 0 0,.slice none 0 0,.slice none 0 0,.slice none 0 0] 41)) 9 #[.string ⟨#[33]⟩,.string ⟨#[126]⟩,.string ⟨#[45]⟩]
 rw [show ((w.alloc (.cells #[.int .i64 0,.int .i64 0,.string ⟨#[]⟩,.string ⟨#[]⟩,.slice none 0 0,.slice none 0 0,.slice none 0 0,.slice none 0 0,.slice none 0 0] 41))).heap.size=w.heap.size + 1 by simp] at hlr
 have HLr:=Lib.hid hlr
 clear hbr hlr HP0 HF0 HB0
 cases hs:sees E i [[33],[126],[45]] with
 | true=>
  rw [if_pos hs] at hRr
  have hlt:=sees_lt hs
  have HLT:=Lib.hid hlt
  clear hlt
  go_enter Tryz.func68,Tryz.ntmps68
  have hT:=sees0 HPr.out [[33],[126],[45]] HLr.out (by simp)
  rw [hs] at hT
  have HT:=Lib.hid hT
  clear hs hT
  go_wp2_with (fail)
  refine (HT.out).mono ?_
  rintro e w1 ⟨rfl,hbq⟩
  have HP1:=Lib.hid (HPr.out.belowAll hbq)
  have HF1:=Lib.hid (HFr.out.bel hbq)
  have HB1:=Lib.hid (HBr.out.belowAll hbq)
  clear hbq HT HLr HPr HFr HBr
  have HC':=turnedFn ih HP1.out HLT.out (fun h=>by rw [h] at hRr;exact HNE.out hRr.symm)
  cases h1:((unary E f (i + 1)).bd fun a j=>R.ok (Ast.una (textAt E i) a) j) with
  | out=>exact absurd h1 (fun h=>by rw [h] at hRr;exact HNE.out hRr.symm)
  | bad c a=>
   rw [h1] at HC' hRr
   have HC:=Lib.hid HC'
   have HR:=Lib.hid hRr
   clear h1 HC' hRr ih
   go_wp2_with (fail)
   refine (HC.out).mono ?_
   rintro e wz ⟨rfl,hF⟩
   rw [← HR.out]
   exact ⟨rfl,rfl,HF1.out.trans hF⟩
  | ok x j=>
   rw [h1] at HC' hRr
   have HC:=Lib.hid HC'
   have HR:=Lib.hid hRr
   clear h1 HC' hRr ih
   go_wp2_with (fail)
   refine (HC.out).mono ?_
   rintro e wy ⟨v,rfl,⟨vn,vi,vh,vk,va,rfl,hv⟩,hPq,hFq⟩
   obtain ⟨z1,y1,x1,z2,y2,x2,z3,y3,x3,z4,y4,x4,z5,y5,x5,rfl,rfl,rfl,rfl,rfl⟩:=hv.forms
   have hHq:=HB1.out.fp hFq (by omega)
   obtain ⟨d0,d1,d2,d3,d4,d5,d6,d7,d8⟩:=hHq.cells9
   obtain ⟨g0,g1,g2,g3,g4,g5,g6,g7,g8⟩:=hHq.free9
   have hlo:w.heap.size < w1.heap.size:=HB1.out.lt
   have HV:=Lib.hid hv
   have HHq:=Lib.hid hHq
   have HPq:=Lib.hid hPq
   have HFq:=Lib.hid (HF1.out.trans hFq)
   have HLO:=Lib.hid hlo
   unfold Ast.val
   clear hv hHq hPq hFq HC hlo
   go_wp2
   exact ast_end Tryz.results68 rfl rfl HHq.out HV.out HLO.out (Nat.le_refl _) hp1 HPq.out HFq.out (by rw [← HR.out]) rfl rfl rfl rfl
 | false=>
  rw [if_neg (by rw [hs];decide)] at hRr
  go_enter Tryz.func68,Tryz.ntmps68
  have hT:=sees0 HPr.out [[33],[126],[45]] HLr.out (by simp)
  rw [hs] at hT
  have HT:=Lib.hid hT
  clear hs hT
  go_wp2_with (fail)
  refine (HT.out).mono ?_
  rintro e w1 ⟨rfl,hbq⟩
  have HP1:=Lib.hid (HPr.out.belowAll hbq)
  have HF1:=Lib.hid (HFr.out.bel hbq)
  have HB1:=Lib.hid (HBr.out.belowAll hbq)
  clear hbq HT HLr HPr HFr HBr
  have hbr:Below w1.heap.size w1 (w1.alloc (.cells #[.string ⟨#[40]⟩] 9)):=(Below.refl _ _).alloc (Nat.le_refl _) _
  have HPr:=Lib.hid (HP1.out.belowAll hbr)
  have HFr:=Lib.hid (HF1.out.bel hbr)
  have HBr:=Lib.hid (HB1.out.belowAll hbr)
  have hlr:=Holds.new w1 9 #[.string ⟨#[40]⟩]
  have HLr:=Lib.hid hlr
  clear hbr hlr HP1 HF1 HB1
  cases hs:sees E i [[40]] with
  | true=>
   rw [if_pos hs] at hRr
   have HT:=Lib.hid (takes_yes HPr.out [[40]] HLr.out (by simp) hs)
   clear hs
   go_wp2_with (fail)
   refine (HT.out).mono ?_
   rintro e w2 ⟨rfl,hPq,hFq⟩
   have HP2:=Lib.hid hPq
   have HB2:=Lib.hid (HBr.out.fp hFq (by omega))
   have HF2:=Lib.hid (HFr.out.trans hFq)
   clear hPq hFq HT HLr HPr HFr HBr
   have HC':=ih.bracket HP2.out (fun h=>by rw [h] at hRr;exact HNE.out hRr.symm)
   cases h1:bracket E f (i + 1) with
   | out=>exact absurd h1 (fun h=>by rw [h] at hRr;exact HNE.out hRr.symm)
   | bad c a=>
    rw [h1] at HC' hRr
    have HC:=Lib.hid HC'
    have HR:=Lib.hid hRr
    clear h1 HC' hRr ih
    go_wp2_with (fail)
    refine (HC.out).mono ?_
    rintro e wz ⟨rfl,hF⟩
    rw [← HR.out]
    exact ⟨rfl,rfl,HF2.out.trans hF⟩
   | ok x j=>
    rw [h1] at HC' hRr
    have HC:=Lib.hid HC'
    have HR:=Lib.hid hRr
    clear h1 HC' hRr ih
    go_wp2_with (fail)
    refine (HC.out).mono ?_
    rintro e wy ⟨v,rfl,⟨vn,vi,vh,vk,va,rfl,hv⟩,hPq,hFq⟩
    obtain ⟨z1,y1,x1,z2,y2,x2,z3,y3,x3,z4,y4,x4,z5,y5,x5,rfl,rfl,rfl,rfl,rfl⟩:=hv.forms
    have hHq:=HB2.out.fp hFq (by omega)
    obtain ⟨d0,d1,d2,d3,d4,d5,d6,d7,d8⟩:=hHq.cells9
    obtain ⟨g0,g1,g2,g3,g4,g5,g6,g7,g8⟩:=hHq.free9
    have hlo:w.heap.size < w2.heap.size:=HB2.out.lt
    have HV:=Lib.hid hv
    have HHq:=Lib.hid hHq
    have HPq:=Lib.hid hPq
    have HFq:=Lib.hid (HF2.out.trans hFq)
    have HLO:=Lib.hid hlo
    unfold Ast.val
    clear hv hHq hPq hFq HC hlo
    go_wp2
    exact ast_end Tryz.results68 rfl rfl HHq.out HV.out HLO.out (Nat.le_refl _) hp1 HPq.out HFq.out (by rw [← HR.out]) rfl rfl rfl rfl
  | false=>
   rw [if_neg (by rw [hs];decide)] at hRr
   have HT:=Lib.hid (takes_no HPr.out [[40]] HLr.out (by simp) hs)
   clear hs
   go_wp2_with (fail)
   refine (HT.out).mono ?_
   rintro e w2 ⟨rfl,hbq⟩
   have HP2:=Lib.hid (HPr.out.belowAll hbq)
   have HF2:=Lib.hid (HFr.out.bel hbq)
   have HB2:=Lib.hid (HBr.out.belowAll hbq)
   clear hbq HT HLr HPr HFr HBr
   have HC':=ih.primary HP2.out (fun h=>by rw [h] at hRr;exact HNE.out hRr.symm)
   cases h1:primary E f i with
   | out=>exact absurd h1 (fun h=>by rw [h] at hRr;exact HNE.out hRr.symm)
   | bad c a=>
    rw [h1] at HC' hRr
    have HC:=Lib.hid HC'
    have HR:=Lib.hid hRr
    clear h1 HC' hRr ih
    go_wp2_with (fail)
    refine (HC.out).mono ?_
    rintro e wz ⟨rfl,hF⟩
    rw [← HR.out]
    exact ⟨rfl,rfl,HF2.out.trans hF⟩
   | ok x j=>
    rw [h1] at HC' hRr
    have HC:=Lib.hid HC'
    have HR:=Lib.hid hRr
    clear h1 HC' hRr ih
    go_wp2_with (fail)
    refine (HC.out).mono ?_
    rintro e wy ⟨v,rfl,⟨vn,vi,vh,vk,va,rfl,hv⟩,hPq,hFq⟩
    obtain ⟨z1,y1,x1,z2,y2,x2,z3,y3,x3,z4,y4,x4,z5,y5,x5,rfl,rfl,rfl,rfl,rfl⟩:=hv.forms
    have hHq:=HB2.out.fp hFq (by omega)
    obtain ⟨d0,d1,d2,d3,d4,d5,d6,d7,d8⟩:=hHq.cells9
    obtain ⟨g0,g1,g2,g3,g4,g5,g6,g7,g8⟩:=hHq.free9
    have hlo:w.heap.size < w2.heap.size:=HB2.out.lt
    have HV:=Lib.hid hv
    have HHq:=Lib.hid hHq
    have HPq:=Lib.hid hPq
    have HFq:=Lib.hid (HF2.out.trans hFq)
    have HLO:=Lib.hid hlo
    unfold Ast.val
    clear hv hHq hPq hFq HC hlo
    go_wp2
    exact ast_end Tryz.results68 rfl rfl HHq.out HV.out HLO.out (Nat.le_refl _) hp1 HPq.out HFq.out (by rw [← HR.out]) rfl rfl rfl rfl
set_option maxHeartbeats 2000000 in
set_option maxRecDepth 100000 in
theorem fullFn {E:Env} {f:Nat} (ih:ExprOk E f) {w:World} {p i:Nat} {vl:Value} (hP:Par w p vl E i) (hne:expr E f 0 i ≠ .out):
  Calls Tryz.prog 146 #[.pointer (some ⟨p,0,none⟩)] w (Out p vl E w (AstV (From w.heap.size)) (expr E f 0 i)):=by

 have hp1:=hP.lt
 have hfew:=hP.few
 have hb0:Below w.heap.size w (w.alloc (.cells #[.int .i64 0,.int .i64 0,.string ⟨#[]⟩,.string ⟨#[]⟩,.slice none 0 0,.slice none 0 0,.slice none 0 0,.slice none 0 0,.slice none 0 0] 41)):=(Below.refl _ _).alloc (Nat.le_refl _) _
 have HP0:=Lib.hid (hP.belowAll hb0)
 have HB0:=Lib.hid (Holds.new w 41 #[.int .i64 0,.int .i64 0,.string ⟨#[]⟩,.string ⟨#[]⟩,.slice none 0 0,.slice none 0 0,.slice none 0 0,.slice none 0 0,.slice none 0 0])
 have HF0:=Lib.hid (Fp.of_below (p:=p) hb0)
 obtain ⟨Rr,hRr⟩:∃ Rr,expr E f 0 i=Rr:=⟨_,rfl⟩
 rw [hRr] at hne ⊢
 have HNE:=Lib.hid hne
 clear hP hb0 hne
 go_enter Tryz.func146,Tryz.ntmps146
 have HC':=ih.expr (lvl:=0) HP0.out (by omega) (fun h=>by rw [h] at hRr;exact HNE.out hRr.symm)
 cases h1:expr E f 0 i with
 | out=>exact absurd h1 (fun h=>by rw [h] at hRr;exact HNE.out hRr.symm)
 | bad c a=>
  rw [h1] at HC' hRr
  have HC:=Lib.hid HC'
  have HR:=Lib.hid hRr
  clear h1 HC' hRr ih
  go_wp2_with (fail)
  refine (HC.out).mono ?_
  rintro e wz ⟨rfl,hF⟩
  rw [← HR.out]
  exact ⟨rfl,rfl,HF0.out.trans hF⟩
 | ok x j=>
  rw [h1] at HC' hRr
  have HC:=Lib.hid HC'
  have HR:=Lib.hid hRr
  clear h1 HC' hRr ih
  go_wp2_with (fail)
  refine (HC.out).mono ?_
  rintro e wy ⟨v,rfl,⟨vn,vi,vh,vk,va,rfl,hv⟩,hPq,hFq⟩
  obtain ⟨z1,y1,x1,z2,y2,x2,z3,y3,x3,z4,y4,x4,z5,y5,x5,rfl,rfl,rfl,rfl,rfl⟩:=hv.forms
  have hHq:=HB0.out.fp hFq (by omega)
  obtain ⟨d0,d1,d2,d3,d4,d5,d6,d7,d8⟩:=hHq.cells9
  obtain ⟨g0,g1,g2,g3,g4,g5,g6,g7,g8⟩:=hHq.free9
  have hlo:w.heap.size < (w.alloc (.cells #[.int .i64 0,.int .i64 0,.string ⟨#[]⟩,.string ⟨#[]⟩,.slice none 0 0,.slice none 0 0,.slice none 0 0,.slice none 0 0,.slice none 0 0] 41)).heap.size:=HB0.out.lt
  have HV:=Lib.hid hv
  have HHq:=Lib.hid hHq
  have HPq:=Lib.hid hPq
  have HFq:=Lib.hid (HF0.out.trans hFq)
  have HLO:=Lib.hid hlo
  unfold Ast.val
  clear hv hHq hPq hFq HC hlo
  go_wp2
  exact ast_end Tryz.results146 rfl rfl HHq.out HV.out HLO.out (Nat.le_refl _) hp1 HPq.out HFq.out (by rw [← HR.out]) rfl rfl rfl rfl
theorem oneFull {E:Env} {f p:Nat} {vl:Value} (ih:ExprOk E f):OneOk p vl E AstV 146 #[.pointer (some ⟨p,0,none⟩)] #[] (fun k=>expr E f 0 k):=
 ⟨enters_of Tryz.func146 (by decide) rfl,fun hP hne=>fullFn ih hP hne⟩
theorem oneArg {E:Env} {f p:Nat} {vl:Value} (ih:ExprOk E f):OneOk p vl E ArgV 161 #[.pointer (some ⟨p,0,none⟩)] #[] (fun k=>arg E f k):=
 ⟨enters_of Tryz.func161 (by decide) rfl,fun hP hne=>ih.arg hP hne⟩
end Go.Proofs.YtpoghableadkcaaGreatDoor
end
section
/- The walk of bracket (printed by mkexp3.py). -/
namespace Go.Proofs.YtpoghableadkcaaGreatDoor
open Go.RowKit
set_option linter.unusedVariables false
set_option linter.unusedSimpArgs false

theorem Holds.far9 {W:World} {b b':Nat} {t:TypeId} {cs:List Value} {x0 x1 x2 x3 x4 x5 x6 x7 x8:Value} (h:Holds W b t cs) (hb:b ≠ b'):Holds (Go.Proofs.YtpoghableadkcaaGreatDoor.set9 W b' x0 x1 x2 x3 x4 x5 x6 x7 x8) b t cs:=
 ((((((((h.far (p:=⟨b',0,none⟩) hb x0).far (p:=⟨b',1,none⟩) hb x1).far (p:=⟨b',2,none⟩) hb x2).far (p:=⟨b',3,none⟩) hb x3).far (p:=⟨b',4,none⟩) hb x4).far (p:=⟨b',5,none⟩) hb x5).far (p:=⟨b',6,none⟩) hb x6).far (p:=⟨b',7,none⟩) hb x7).far (p:=⟨b',8,none⟩) hb x8
set_option maxHeartbeats 2000000 in
set_option maxRecDepth 100000 in
theorem bracketFn {E:Env} {f:Nat} (ih:ExprOk E f) {w:World} {p i:Nat} {vl:Value} (hP:Par w p vl E i) (hne:bracket E (f + 1) i ≠ .out):
  Calls Tryz.prog 113 #[.pointer (some ⟨p,0,none⟩)] w (Out p vl E w (AstV (From w.heap.size)) (bracket E (f + 1) i)):=by

 have hp1:=hP.lt
 have hfew:=hP.few
 have hb0:Below w.heap.size w (w.alloc (.cells #[.int .i64 0,.int .i64 0,.string ⟨#[]⟩,.string ⟨#[]⟩,.slice none 0 0,.slice none 0 0,.slice none 0 0,.slice none 0 0,.slice none 0 0] 41)):=(Below.refl _ _).alloc (Nat.le_refl _) _
 have HP0:=Lib.hid (hP.belowAll hb0)
 have HB0:=Lib.hid (Holds.new w 41 #[.int .i64 0,.int .i64 0,.string ⟨#[]⟩,.string ⟨#[]⟩,.slice none 0 0,.slice none 0 0,.slice none 0 0,.slice none 0 0,.slice none 0 0])
 have HF0:=Lib.hid (Fp.of_below (p:=p) hb0)
 obtain ⟨Rr,hRr⟩:∃ Rr,bracket E (f + 1) i=Rr:=⟨_,rfl⟩
 rw [hRr] at hne ⊢
 have HNE:=Lib.hid hne
 rw [bracket] at hRr
 clear hP hb0 hne
 go_enter Tryz.func113,Tryz.ntmps113
 have HC':=ih.expr (lvl:=0) HP0.out (by omega) (fun h=>by rw [h] at hRr;exact HNE.out hRr.symm)
 cases h1:expr E f 0 i with
 | out=>exact absurd h1 (fun h=>by rw [h] at hRr;exact HNE.out hRr.symm)
 | bad c a=>
  rw [h1] at HC' hRr
  have HC:=Lib.hid HC'
  have HR:=Lib.hid hRr
  clear h1 HC' hRr 
  go_wp2_with (fail)
  refine (HC.out).mono ?_
  rintro e wz ⟨rfl,hF⟩
  rw [← HR.out]
  exact ⟨rfl,rfl,HF0.out.trans hF⟩
 | ok x j=>
  rw [h1] at HC' hRr
  have HC:=Lib.hid HC'
  have HR:=Lib.hid hRr
  clear h1 HC' hRr 
  go_wp2_with (fail)
  refine (HC.out).mono ?_
  rintro e w1 ⟨v,rfl,⟨vn,vi,vh,vk,va,rfl,hv⟩,hPq,hFq⟩
  obtain ⟨z1,y1,x1,z2,y2,x2,z3,y3,x3,z4,y4,x4,z5,y5,x5,rfl,rfl,rfl,rfl,rfl⟩:=hv.forms
  have hRr:=HR.out
  try simp only [R.bd] at hRr
  have hB1:=HB0.out.fp hFq (by omega)
  have hw1:w.heap.size < w1.heap.size:=hB1.lt
  have hsz0:(w.alloc (.cells #[.int .i64 0,.int .i64 0,.string ⟨#[]⟩,.string ⟨#[]⟩,.slice none 0 0,.slice none 0 0,.slice none 0 0,.slice none 0 0,.slice none 0 0] 41)).heap.size=w.heap.size + 1:=by simp
  rw [hsz0] at hv
  have hba:Below w1.heap.size w1 (w1.alloc (.cells #[.int .i64 (x.kind:Int),.int .i64 x.n,.string ⟨x.name.toArray⟩,.string ⟨x.label.toArray⟩,.slice z1 y1 x1,.slice z2 y2 x2,.slice z3 y3 x3,.slice z4 y4 x4,.slice z5 y5 x5] 41)):=(Below.refl _ _).alloc (Nat.le_refl _) _
  have hVa:AstF (fun k=>w.heap.size + 1 ≤ k∧k ≠ w1.heap.size) (w1.alloc (.cells #[.int .i64 (x.kind:Int),.int .i64 x.n,.string ⟨x.name.toArray⟩,.string ⟨x.label.toArray⟩,.slice z1 y1 x1,.slice z2 y2 x2,.slice z3 y3 x3,.slice z4 y4 x4,.slice z5 y5 x5] 41)) x (.slice z1 y1 x1) (.slice z2 y2 x2) (.slice z3 y3 x3) (.slice z4 y4 x4) (.slice z5 y5 x5):=(hv.mono (fun k hk hs=>⟨hk,by omega⟩)).up (Keep.below hba)
  have HVa:=Lib.hid hVa
  have HPa:=Lib.hid (hPq.belowAll hba)
  have HBa:=Lib.hid (hB1.belowAll hba)
  have HAa:=Lib.hid (Holds.new w1 41 #[.int .i64 (x.kind:Int),.int .i64 x.n,.string ⟨x.name.toArray⟩,.string ⟨x.label.toArray⟩,.slice z1 y1 x1,.slice z2 y2 x2,.slice z3 y3 x3,.slice z4 y4 x4,.slice z5 y5 x5])
  have HFa:=Lib.hid ((HF0.out.trans hFq).bel hba)
  unfold Ast.val
  clear hv hPq hFq hB1 hba hVa HR HC hsz0 HP0 HB0 HF0
  have hbr:Below (w1.alloc (.cells #[.int .i64 (x.kind:Int),.int .i64 x.n,.string ⟨x.name.toArray⟩,.string ⟨x.label.toArray⟩,.slice z1 y1 x1,.slice z2 y2 x2,.slice z3 y3 x3,.slice z4 y4 x4,.slice z5 y5 x5] 41)).heap.size (w1.alloc (.cells #[.int .i64 (x.kind:Int),.int .i64 x.n,.string ⟨x.name.toArray⟩,.string ⟨x.label.toArray⟩,.slice z1 y1 x1,.slice z2 y2 x2,.slice z3 y3 x3,.slice z4 y4 x4,.slice z5 y5 x5] 41)) ((w1.alloc (.cells #[.int .i64 (x.kind:Int),.int .i64 x.n,.string ⟨x.name.toArray⟩,.string ⟨x.label.toArray⟩,.slice z1 y1 x1,.slice z2 y2 x2,.slice z3 y3 x3,.slice z4 y4 x4,.slice z5 y5 x5] 41)).alloc (.cells #[.string ⟨#[45,62]⟩] 9)):=(Below.refl _ _).alloc (Nat.le_refl _) _
  have HPr:=Lib.hid (HPa.out.belowAll hbr)
  have HFr:=Lib.hid (HFa.out.bel hbr)
  have HBr:=Lib.hid (HBa.out.belowAll hbr)
  have HAr:=Lib.hid (HAa.out.belowAll hbr)
  have hlr:=Holds.new (w1.alloc (.cells #[.int .i64 (x.kind:Int),.int .i64 x.n,.string ⟨x.name.toArray⟩,.string ⟨x.label.toArray⟩,.slice z1 y1 x1,.slice z2 y2 x2,.slice z3 y3 x3,.slice z4 y4 x4,.slice z5 y5 x5] 41)) 9 #[.string ⟨#[45,62]⟩]
  rw [show ((w1.alloc (.cells #[.int .i64 (x.kind:Int),.int .i64 x.n,.string ⟨x.name.toArray⟩,.string ⟨x.label.toArray⟩,.slice z1 y1 x1,.slice z2 y2 x2,.slice z3 y3 x3,.slice z4 y4 x4,.slice z5 y5 x5] 41))).heap.size=w1.heap.size + 1 by simp] at hlr
  have HLr:=Lib.hid hlr
  have HVr:=Lib.hid (HVa.out.up (Keep.below hbr))
  clear HVa hbr hlr HPa HFa HBa HAa
  cases hs:sees E j [[45,62]] with
  | true=>
   rw [if_pos hs] at hRr
   have HT:=Lib.hid (takes_yes HPr.out [[45,62]] HLr.out (by simp) hs)
   clear hs
   go_wp2_with (fail)
   refine (HT.out).mono ?_
   rintro e w2 ⟨rfl,hPq,hFq⟩
   have HP2:=Lib.hid hPq
   have HB2:=Lib.hid (HBr.out.fp hFq (by omega))
   have HA2:=Lib.hid (HAr.out.fp hFq (by omega))
   have HF2:=Lib.hid (HFr.out.trans hFq)
   have HV2:=Lib.hid (HVr.out.up (Keep.of_fp hFq (by show ¬ _;omega)))
   clear HVr hPq hFq HT HLr HPr HFr HBr HAr
   obtain ⟨e0,e1,e2,e3,e4,e5,e6,e7,e8⟩:=HA2.out.cells9
   have hchn:choice E f x (j + 1) ≠ .out:=(fun h=>by rw [h] at hRr;exact HNE.out hRr.symm)
   have HC':=ih.choice HP2.out ⟨_,_,_,_,_,rfl,HV2.out⟩ (by show ¬ _;omega) hchn
   cases h1:choice E f x (j + 1) with
   | out=>exact absurd h1 hchn
   | bad c a=>
    rw [h1] at HC' hRr
    have HC:=Lib.hid HC'
    have HR:=Lib.hid hRr
    clear h1 HC' hRr hchn ih
    go_wp2_with (fail)
    refine (HC.out).mono ?_
    rintro e wz ⟨rfl,hF⟩
    rw [← HR.out]
    exact ⟨rfl,rfl,HF2.out.trans hF⟩
   | ok y k=>
    rw [h1] at HC' hRr
    have HC:=Lib.hid HC'
    have HR:=Lib.hid hRr
    clear h1 HC' hRr hchn ih
    go_wp2_with (fail)
    refine (HC.out).mono ?_
    rintro e w3 ⟨v2,rfl,⟨un,ui,uh,uk,ua,rfl,hu⟩,hPq,hFq⟩
    obtain ⟨u1,t1,s1,u2,t2,s2,u3,t3,s3,u4,t4,s4,u5,t5,s5,rfl,rfl,rfl,rfl,rfl⟩:=hu.forms
    have hRr:=HR.out
    try simp only [R.bd] at hRr
    have hB3:=HB2.out.fp hFq (by omega)
    have hA3:=HA2.out.fp hFq (by omega)
    have hw2:w1.heap.size < w2.heap.size:=HA2.out.lt
    obtain ⟨e0,e1,e2,e3,e4,e5,e6,e7,e8⟩:=hA3.cells9
    obtain ⟨g0,g1,g2,g3,g4,g5,g6,g7,g8⟩:=hA3.free9
    have HV4:=Lib.hid (hu.up (Keep.set9 (W:=w3) (b:=w1.heap.size) (x0:=.int .i64 (y.kind:Int)) (x1:=.int .i64 y.n) (x2:=.string ⟨y.name.toArray⟩) (x3:=.string ⟨y.label.toArray⟩) (x4:=.slice u1 t1 s1) (x5:=.slice u2 t2 s2) (x6:=.slice u3 t3 s3) (x7:=.slice u4 t4 s4) (x8:=.slice u5 t5 s5) (by show ¬ _;omega)))
    have HA4:=Lib.hid (hA3.set9 (x0:=.int .i64 (y.kind:Int)) (x1:=.int .i64 y.n) (x2:=.string ⟨y.name.toArray⟩) (x3:=.string ⟨y.label.toArray⟩) (x4:=.slice u1 t1 s1) (x5:=.slice u2 t2 s2) (x6:=.slice u3 t3 s3) (x7:=.slice u4 t4 s4) (x8:=.slice u5 t5 s5))
    have HB4:=Lib.hid (hB3.far9 (b':=w1.heap.size) (x0:=.int .i64 (y.kind:Int)) (x1:=.int .i64 y.n) (x2:=.string ⟨y.name.toArray⟩) (x3:=.string ⟨y.label.toArray⟩) (x4:=.slice u1 t1 s1) (x5:=.slice u2 t2 s2) (x6:=.slice u3 t3 s3) (x7:=.slice u4 t4 s4) (x8:=.slice u5 t5 s5) (by omega))
    have HP4:=Lib.hid (hPq.set9 (b:=w1.heap.size) (x0:=.int .i64 (y.kind:Int)) (x1:=.int .i64 y.n) (x2:=.string ⟨y.name.toArray⟩) (x3:=.string ⟨y.label.toArray⟩) (x4:=.slice u1 t1 s1) (x5:=.slice u2 t2 s2) (x6:=.slice u3 t3 s3) (x7:=.slice u4 t4 s4) (x8:=.slice u5 t5 s5) (by omega))
    have HF4:=Lib.hid ((HF2.out.trans hFq).set9 (b:=w1.heap.size) (x0:=.int .i64 (y.kind:Int)) (x1:=.int .i64 y.n) (x2:=.string ⟨y.name.toArray⟩) (x3:=.string ⟨y.label.toArray⟩) (x4:=.slice u1 t1 s1) (x5:=.slice u2 t2 s2) (x6:=.slice u3 t3 s3) (x7:=.slice u4 t4 s4) (x8:=.slice u5 t5 s5) (by omega))
    unfold Ast.val
    clear hu hPq hFq hB3 hA3 HR HC HP2 HB2 HA2 HF2 HV2
    have HC':=needFn HP4.out [41]
    cases h1:need E [41] k with
    | out=>exact absurd h1 need_ne
    | bad c a=>
     rw [h1] at HC' hRr
     have HC:=Lib.hid HC'
     have HR:=Lib.hid hRr
     clear h1 HC' hRr 
     go_wp2_with (fail)
     refine (HC.out).mono ?_
     rintro e wz ⟨rfl,hF⟩
     rw [← HR.out]
     exact ⟨rfl,rfl,HF4.out.trans hF⟩
    | ok u m=>
     rw [h1] at HC' hRr
     have HC:=Lib.hid HC'
     have HR:=Lib.hid hRr
     clear h1 HC' hRr 
     go_wp2_with (fail)
     refine (HC.out).mono ?_
     rintro e w5 ⟨v5,rfl,hv5,hPq,hFq⟩
     obtain rfl:=hv5
     have hRr:=HR.out
     try simp only [R.bd] at hRr
     have hRx:=hRr.symm
     have HRx:=Lib.hid hRx
     have HP5:=Lib.hid hPq
     have HB5:=Lib.hid (HB4.out.fp hFq (by omega))
     have HA5:=Lib.hid (HA4.out.fp hFq (by omega))
     have HV5:=Lib.hid (HV4.out.up (Keep.of_fp hFq (by show ¬ _;omega)))
     have HF5:=Lib.hid (HF4.out.trans hFq)
     clear hPq hFq hRr hRx HR HC
     have hHq:=HB5.out
     have hAq:=HA5.out
     obtain ⟨d0,d1,d2,d3,d4,d5,d6,d7,d8⟩:=hHq.cells9
     obtain ⟨g0,g1,g2,g3,g4,g5,g6,g7,g8⟩:=hHq.free9
     obtain ⟨e0,e1,e2,e3,e4,e5,e6,e7,e8⟩:=hAq.cells9
     have HZ:Hid (Rr=.ok y m):=HRx.out
     clear hHq hAq
     go_wp2
     exact ast_end2 (P:=Or2 (fun k=>w.heap.size + 1 ≤ k∧k ≠ w1.heap.size) w2) Tryz.results113 rfl rfl HB5.out HV5.out (by show ¬ _;omega) (by intro k hk;omega) (Nat.le_refl _) hp1 HP5.out HF5.out HZ.out rfl rfl rfl rfl
  | false=>
   rw [if_neg (by rw [hs];decide)] at hRr
   have HT:=Lib.hid (takes_no HPr.out [[45,62]] HLr.out (by simp) hs)
   clear hs
   go_wp2_with (fail)
   refine (HT.out).mono ?_
   rintro e w2 ⟨rfl,hbq⟩
   have HP2:=Lib.hid (HPr.out.belowAll hbq)
   have HF2:=Lib.hid (HFr.out.bel hbq)
   have HB2:=Lib.hid (HBr.out.belowAll hbq)
   have HA2:=Lib.hid (HAr.out.belowAll hbq)
   have HV2:=Lib.hid (HVr.out.up (Keep.below hbq))
   clear HVr hbq HT HLr HPr HFr HBr HAr
   have HC':=needFn HP2.out [41]
   cases h1:need E [41] j with
   | out=>exact absurd h1 need_ne
   | bad c a=>
    rw [h1] at HC' hRr
    have HC:=Lib.hid HC'
    have HR:=Lib.hid hRr
    clear h1 HC' hRr ih
    go_wp2_with (fail)
    refine (HC.out).mono ?_
    rintro e wz ⟨rfl,hF⟩
    rw [← HR.out]
    exact ⟨rfl,rfl,HF2.out.trans hF⟩
   | ok u m=>
    rw [h1] at HC' hRr
    have HC:=Lib.hid HC'
    have HR:=Lib.hid hRr
    clear h1 HC' hRr ih
    go_wp2_with (fail)
    refine (HC.out).mono ?_
    rintro e w5 ⟨v5,rfl,hv5,hPq,hFq⟩
    obtain rfl:=hv5
    have hRr:=HR.out
    try simp only [R.bd] at hRr
    have hRx:=hRr.symm
    have HRx:=Lib.hid hRx
    have HP5:=Lib.hid hPq
    have HB5:=Lib.hid (HB2.out.fp hFq (by omega))
    have HA5:=Lib.hid (HA2.out.fp hFq (by omega))
    have HV5:=Lib.hid (HV2.out.up (Keep.of_fp hFq (by show ¬ _;omega)))
    have HF5:=Lib.hid (HF2.out.trans hFq)
    clear hPq hFq hRr hRx HR HC
    have hHq:=HB5.out
    have hAq:=HA5.out
    obtain ⟨d0,d1,d2,d3,d4,d5,d6,d7,d8⟩:=hHq.cells9
    obtain ⟨g0,g1,g2,g3,g4,g5,g6,g7,g8⟩:=hHq.free9
    obtain ⟨e0,e1,e2,e3,e4,e5,e6,e7,e8⟩:=hAq.cells9
    have HZ:Hid (Rr=.ok x m):=HRx.out
    clear hHq hAq
    go_wp2
    exact ast_end2 (P:=(fun k=>w.heap.size + 1 ≤ k∧k ≠ w1.heap.size)) Tryz.results113 rfl rfl HB5.out HV5.out (by show ¬ _;omega) (by intro k hk;omega) (Nat.le_refl _) hp1 HP5.out HF5.out HZ.out rfl rfl rfl rfl
end Go.Proofs.YtpoghableadkcaaGreatDoor
end
section
/- Boxes of any length: stores in a row of cells. -/
namespace Go.Proofs.YtpoghableadkcaaGreatDoor
open Go.RowKit
set_option linter.unusedVariables false

/-- Cells of a box,from i on,are stored. -/
def setR (W:World) (b:Nat):Nat→List Value→World
 | _,[]=>W
 | i,x :: r=>setR (W.setCell ⟨b,i,none⟩ x) b (i + 1) r
def putR (cs:List Value):Nat→List Value→List Value
 | _,[]=>cs
 | i,x :: r=>putR (cs.set i x) (i + 1) r
section
variable {b b' p:Nat} {t:TypeId}
theorem Holds.setR:∀ (xs:List Value) (i:Nat) {W:World} {cs:List Value},Holds W b t cs→Holds (setR W b i xs) b t (putR cs i xs)
 | [],_,_,_,h=>h
 | x :: r,i,_,_,h=>Holds.setR r (i + 1) (h.put i x)
theorem Holds.farR (hb:b ≠ b'):∀ (xs:List Value) (i:Nat) {W:World} {cs:List Value},Holds W b t cs→Holds (Go.Proofs.YtpoghableadkcaaGreatDoor.setR W b' i xs) b t cs
 | [],_,_,_,h=>h
 | x :: r,i,_,_,h=>Holds.farR hb r (i + 1) (h.far (p:=⟨b',i,none⟩) hb x)
theorem Par.setR {j:Nat} {vl:Value} {E:Env} (hb:p < b):∀ (xs:List Value) (i:Nat) {W:World},Par W p vl E j→Par (Go.Proofs.YtpoghableadkcaaGreatDoor.setR W b i xs) p vl E j
 | [],_,_,h=>h
 | x :: r,i,_,h=>Par.setR hb r (i + 1) (h.far (a:=⟨b,i,none⟩) hb x)
theorem Fp.setR {a:World} (hb:a.heap.size ≤ b):∀ (xs:List Value) (i:Nat) {W:World},Fp p a W→Fp p a (Go.Proofs.YtpoghableadkcaaGreatDoor.setR W b i xs)
 | [],_,_,h=>h
 | x :: r,i,_,h=>Fp.setR hb r (i + 1) (h.far hb i x)
theorem Fp.selfR:∀ (xs:List Value) (i:Nat) {a W:World},Fp b a W→Fp b a (Go.Proofs.YtpoghableadkcaaGreatDoor.setR W b i xs)
 | [],_,_,_,h=>h
 | x :: r,i,_,_,h=>Fp.selfR r (i + 1) (h.set i x)
theorem Keep.setR {P:Nat→Prop} {W:World} (hb:¬ P b) (xs:List Value) (i:Nat):Keep P W (Go.Proofs.YtpoghableadkcaaGreatDoor.setR W b i xs):=fun k hk hs=>
 (Fp.selfR xs i (Fp.refl b W)).block k hs fun e=>hb (e ▸ hk)
theorem setR_size:∀ (xs:List Value) (i:Nat) (W:World),(Go.Proofs.YtpoghableadkcaaGreatDoor.setR W b i xs).heap.size=W.heap.size
 | [],_,_=>rfl
 | x :: r,i,W=>by
  rw [Go.Proofs.YtpoghableadkcaaGreatDoor.setR,setR_size r (i + 1)]
  simp [World.setCell]
end

/-- The end of a method that stores an expression as its answer,whatever is said of where its rows lie. -/
theorem ast_endQ {fn:Func} {s:Nat} (hf:fn.results=#[.cell s 41]) {w W:World} {p j b:Nat} {P Q:Nat→Prop} {vl:Value} {E:Env} {a:Act} {x0 x1 x2 x3 y0 y1 y2 y3 y4 y5 y6 y7 y8 vn vi vh vk va:Value} {x:Ast} {r:R Ast}
  (hs:a.tmps[s]?.getD undef=.pointer (some ⟨b,0,none⟩)) (hd:a.defers=[])
  (hH:Holds W b 41 [y0,y1,y2,y3,y4,y5,y6,y7,y8]) (hv:AstF P W x vn vi vh vk va) (hnb:¬ P b) (hP:∀ k,P k→Q k) (hw:w.heap.size ≤ b) (hp:p < w.heap.size) (HP:Par W p vl E j) (HF:Fp p w W) (hR:r=.ok x j)
  (h0:x0=.int .i64 (x.kind:Int)) (h1:x1=.int .i64 x.n) (h2:x2=.string ⟨x.name.toArray⟩) (h3:x3=.string ⟨x.label.toArray⟩):
  bodyPost Tryz.prog fn (Out p vl E w (AstV Q) r) Exit.ret a (set9 W b x0 x1 x2 x3 vn vi vh vk va):=by
 refine bodyPost_ret (out9 hf hH.set9 hs) hd ?_
 rw [hR,h0,h1,h2,h3]
 exact ⟨_,rfl,⟨vn,vi,vh,vk,va,rfl,(hv.up (Keep.set9 hnb)).mono (fun k hk _=>hP k hk)⟩,HP.set9 (by omega),HF.set9 hw⟩
theorem AstsF.two {P:Nat→Prop} {w:World} {x y:Ast} {xn xi xh xk xa yn yi yh yk ya:Value} (hx:AstF P w x xn xi xh xk xa) (hy:AstF P w y yn yi yh yk ya):AstsF P w [x,y] (Ast.cells x xn xi xh xk xa ++ Ast.cells y yn yi yh yk ya):=
 AstsF.append (AstsF.sing hx) (AstsF.sing hy)
theorem AstsF.three {P:Nat→Prop} {w:World} {x y z:Ast} {xn xi xh xk xa yn yi yh yk ya zn zi zh zk za:Value} (hx:AstF P w x xn xi xh xk xa) (hy:AstF P w y yn yi yh yk ya) (hz:AstF P w z zn zi zh zk za):AstsF P w [x,y,z] (Ast.cells x xn xi xh xk xa ++ (Ast.cells y yn yi yh yk ya ++ Ast.cells z zn zi zh zk za)):=
 AstsF.append (AstsF.sing hx) (AstsF.two hy hz)

/-- The parser and a box alone have turned. -/
abbrev F2 (p b:Nat) (w w':World):Prop:=Fr (fun k=>k=p∨k=b) w w'
section
variable {p b:Nat} {a w w':World}
theorem F2.rfl_:F2 p b w w:=Fr.refl _ _
theorem F2.drew (h:F2 p b a w):F2 p b a w.drew:=Fr.drew h
theorem F2.alloc (h:F2 p b a w) (o:Obj):F2 p b a (w.alloc o):=Fr.alloc h o
theorem F2.fp (h:F2 p b a w) (k:Fp p w w'):F2 p b a w':=Fr.trans h k fun _ _ e=>.inl e
theorem F2.bel (h:F2 p b a w) (k:Below w.heap.size w w'):F2 p b a w':=h.fp (Fp.of_below k)
theorem F2.setb (h:F2 p b a w) (i:Nat) (u:Value):F2 p b a (w.setCell ⟨b,i,none⟩ u):=Fr.setCell h (fun _=>.inr rfl) u
theorem F2.setp (h:F2 p b a w) (i:Nat) (u:Value):F2 p b a (w.setCell ⟨p,i,none⟩ u):=Fr.setCell h (fun _=>.inl rfl) u
theorem F2.far (h:F2 p b a w) {c:Nat} (hc:a.heap.size ≤ c) (i:Nat) (u:Value):F2 p b a (w.setCell ⟨c,i,none⟩ u):=Fr.setCell h (fun hk=>absurd hk (Nat.not_lt.2 hc)) u
theorem F2.of_fp (k:Fp p w w'):F2 p b w w':=F2.rfl_.fp k
theorem F2.holds {A:Nat} {t:TypeId} {cs:List Value} (h:F2 p b w w') (hh:Holds w A t cs) (h1:A ≠ p) (h2:A ≠ b):Holds w' A t cs:=Fr.holds h hh (fun e=>e.elim h1 h2)
theorem F2.keep {P:Nat→Prop} (h:F2 p b w w') (hp:¬ P p) (hb:¬ P b):Keep P w w':=fun k hk hs=>h.block k hs fun e=>e.elim (fun e=>hp (e ▸ hk)) (fun e=>hb (e ▸ hk))
theorem F2.par {vl:Value} {E:Env} {j q:Nat} (h:F2 q b w w') (hh:Par w p vl E j) (hq:p < q) (hb:p < b):Par w' p vl E j:=hh.keep fun k hk=>h.block k (Nat.lt_of_le_of_lt hk hh.lt) fun e=>by rcases e with rfl | rfl <;> omega
end
end Go.Proofs.YtpoghableadkcaaGreatDoor
end
