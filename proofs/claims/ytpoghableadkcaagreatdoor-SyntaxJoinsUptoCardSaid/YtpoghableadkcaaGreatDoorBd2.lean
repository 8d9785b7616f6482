/- What is bad has a code, for statements and units: plain. -/
import Derived.Test.YtpoghableadkcaaGreatDoorM24
namespace Go.Proofs.YtpoghableadkcaaGreatDoor
set_option linter.unusedVariables false

section
variable {E:Env}
theorem Bd.ivar {f i:Nat}:Bd (ivar E f i):=by
 unfold Go.Proofs.YtpoghableadkcaaGreatDoor.ivar
 repeat' first | exact Bd.ok | exact Bd.wrong | exact Bd.need | exact Bd.pid | exact (bdE E f).expr _ _ | (with_reducible refine Bd.many fun _=>?_) | (with_reducible refine Bd.ite ?_ ?_) | (with_reducible refine Bd.bd ?_ fun _ _=>?_)
 all_goals exact Bd.ite Bd.wrong Bd.ok
theorem Bd.decl {f i:Nat}:Bd (decl E f i):=by
 unfold Go.Proofs.YtpoghableadkcaaGreatDoor.decl
 exact Bd.ite (Bd.bd (Bd.many fun _=>Bd.ivar) fun _ _=>Bd.ok) (Bd.bd Bd.pid fun _ _=>Bd.bd (Bd.many fun _=>Bd.ivar) fun _ _=>Bd.ok)
theorem Bd.decls {f:Nat} {stop:Bs}:∀ g i,Bd (decls E f stop g i)
 | 0,i=>Bd.out
 | g + 1,i=>by rw [Go.Proofs.YtpoghableadkcaaGreatDoor.decls];exact Bd.bd Bd.decl fun _ _=>Bd.ite Bd.ok (Bd.bd (Bd.decls g _) fun _ _=>Bd.ok)
theorem Bd.simple {f a i:Nat}:Bd (simple E f a i):=by
 unfold Go.Proofs.YtpoghableadkcaaGreatDoor.simple
 repeat' first | exact Bd.ok | exact Bd.wrong | exact Bd.need | exact Bd.pid | exact (bdE E f).expr _ _ | exact (bdE E f).ref _ | exact (bdE E f).arg _ | (with_reducible refine Bd.message fun _=>?_) | (with_reducible refine Bd.ite ?_ ?_) | (with_reducible refine Bd.bd ?_ fun _ _=>?_)
end
structure BdS (E:Env) (f:Nat):Prop where
 stmt:∀ i,Bd (stmt E f i)
 body:∀ i,Bd (body E f i)
 sequence:∀ i,Bd (sequence E f i)
 step:∀ i,Bd (step E f i)
 options:∀ s i,Bd (options E f s i)
theorem bdS (E:Env):∀ f,BdS E f
 | 0=>by constructor <;> intros <;> intro c a h <;> simp [stmt,body,sequence,step,options] at h
 | f + 1=>by
  have ih:=bdS E f
  constructor <;> intros
  all_goals first | rw [stmt] | rw [body] | rw [sequence] | rw [step] | rw [options]
  all_goals repeat' first | exact Bd.ok | exact Bd.wrong | exact Bd.need | exact Bd.pid | exact Bd.simple | exact Bd.decl | exact (bdE E f).expr _ _ | exact ih.stmt _ | exact ih.body _ | exact ih.sequence _ | exact ih.step _ | exact ih.options _ _ | (with_reducible refine Bd.within fun _=>?_) | (with_reducible refine Bd.many fun _=>?_) | (with_reducible refine Bd.ite ?_ ?_) | (with_reducible refine Bd.bd ?_ fun _ _=>?_)
section
variable {E:Env}
theorem Bd.braces:∀ g n i,Bd (braces E g n i)
 | 0,n,i=>Bd.out
 | g + 1,n,i=>by rw [Go.Proofs.YtpoghableadkcaaGreatDoor.braces];exact Bd.ite Bd.wrong (Bd.ite (Bd.braces g _ _) (Bd.ite (Bd.ite Bd.ok (Bd.braces g _ _)) (Bd.braces g _ _)))
theorem Bd.unit {f i:Nat}:Bd (unitP E f i):=by
 unfold unitP
 repeat' first | exact Bd.ok | exact Bd.wrong | exact Bd.need | exact Bd.pid | exact Bd.decl | exact Bd.decls _ _ | exact Bd.braces _ _ _ | exact (bdE E f).expr _ _ | exact (bdS E f).body _ | (with_reducible refine Bd.within fun _=>?_) | (with_reducible refine Bd.many fun _=>?_) | (with_reducible refine Bd.ite ?_ ?_) | (with_reducible refine Bd.bd ?_ fun _ _=>?_)
theorem Bd.units {f:Nat}:∀ g i,Bd (units E f g i)
 | 0,i=>Bd.out
 | g + 1,i=>by rw [Go.Proofs.YtpoghableadkcaaGreatDoor.units];exact Bd.ite Bd.ok (Bd.ite (Bd.units g _) (Bd.bd Bd.unit fun _ _=>Bd.bd (Bd.units g _) fun _ _=>Bd.ok))
end
theorem parseRes_bad {f g:Nat} {s:ByteArray} {c a:Nat} (hf:parseFu f g s) (ht:∀ c a,tokensOf s=.bad c a→0 < c) (h:parseRes f g s=.bad c a):0 < c:=by
 unfold parseRes at h
 cases htk:tokensOf s with
 | bad c' a'=>
  rw [htk] at h
  simp only at h
  injection h with h1 _
  rw [← h1];exact ht _ _ htk
 | ok L=>
  rw [htk] at h
  simp only at h
  have hfx:=hf L htk
  cases hx:units (envOf s L) f g 0 with
  | out=>exact absurd hx hfx
  | bad c' a'=>
   rw [hx] at h
   simp only at h
   injection h with h1 _
   rw [← h1];exact Bd.units _ _ _ _ hx
  | ok l j=>
   rw [hx] at h
   simp only at h
   split at h
   ·injection h with h1 _;omega
   ·cases h
end Go.Proofs.YtpoghableadkcaaGreatDoor
