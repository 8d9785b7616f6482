/- Two programs, one behind the other: plain. -/
import Derived.Test.YtpoghableadkcaaGreatDoorSmU
import Derived.Test.YtpoghableadkcaaGreatDoorM20
namespace Go.Proofs.YtpoghableadkcaaGreatDoor
set_option linter.unusedVariables false

mutual
theorem dS_er:∀ s:Stm,dS (erS s)=dS s
 | .mk k a nm tx n so ra ke rf e es gs d op bo=>by rw [erS,dS,dS,dSs_er bo,dOs_er op];rfl
theorem dSs_er:∀ (l:List Stm) (n:Int),dSs (erL l) n=dSs l n
 | [],n=>by rw [erL]
 | a :: l,n=>by rw [erL,dSs,dSs,dS_er a,dSs_er l]
theorem dOs_er:∀ (l:List (List Stm)) (n:Int),dOs (erO l) n=dOs l n
 | [],n=>by rw [erO]
 | a :: l,n=>by rw [erO,dOs,dOs,dSs_er a,dOs_er l]
end
theorem fo_map {A B:Type} {d:A→Int} {e:B→Int} {f:A→B} (h:∀ a,e (f a)=d a):∀ (l:List A) (n:Int),(l.map f).foldl (fun n x=>max n (e x)) n=l.foldl (fun n x=>max n (d x)) n
 | [],n=>rfl
 | a :: l,n=>by rw [List.map_cons,List.foldl_cons,List.foldl_cons,h,fo_map h l]
theorem dU_er (u:Unt):dU (erU u)=dU u:=by
 unfold dU
 have h1:fo dS (erU u).body=fo dS u.body:=by
  have:=dSs_er u.body 0
  rw [dSs_fo,dSs_fo] at this
  exact this
 have h2:fo dD (erU u).decls=fo dD u.decls:=fo_map (f:=erD) (fun a=>rfl) u.decls 0
 rw [h1,h2]
 rfl
theorem fo_er {l m:List Unt} (h:l.map erU=m.map erU):fo dU l=fo dU m:=by
 have h1:=fo_map (d:=dU) (e:=dU) dU_er l 0
 have h2:=fo_map (d:=dU) (e:=dU) dU_er m 0
 rw [h] at h1
 exact (h1.symm.trans h2)
theorem fo_le {A:Type} {d:A→Int} {b:Int}:∀ (l:List A) (n:Int),n ≤ b→((¬ b < l.foldl (fun n x=>max n (d x)) n) ↔ ∀ x ∈ l,d x ≤ b)
 | [],n,h=>by simp;omega
 | a :: l,n,h=>by
  rw [List.foldl_cons]
  by_cases ha:d a ≤ b
  ·rw [fo_le l _ (by omega)]
   simp [ha]
  ·constructor
   ·intro h1
    exfalso
    apply h1
    have hm:∀ (l:List A) (n:Int),n ≤ l.foldl (fun n x=>max n (d x)) n:=by
     intro l
     induction l with
     | nil=>intro n;exact Int.le_refl _
     | cons x l ih=>intro n;have:=ih (max n (d x));rw [List.foldl_cons];omega
    have:=hm l (max n (d a))
    omega
   ·intro h1
    exact absurd (h1 a (List.mem_cons_self ..)) ha
def joinTxt (a b:ByteArray):ByteArray:=⟨(a.data.toList ++ 10 :: 59 :: b.data.toList).toArray⟩
theorem tk0_of {s:ByteArray} {ts:List Tk} (h:tokensOf s=.ok ts):s.size ≤ 65536∧tk 0 s.data.toList=.ok ts:=by
 unfold tokensOf at h
 by_cases hs:65536 < s.size
 ·rw [if_pos hs] at h;cases h
 ·rw [if_neg hs] at h
  exact ⟨by omega,by simpa [rest] using h⟩
theorem tokens_join {a b:ByteArray} {A B:List Tk} (ha:tokensOf a=.ok A) (hb:tokensOf b=.ok B) (hs:a.size + b.size + 2 ≤ 65536):
  tokensOf (joinTxt a b)=.ok (A ++ ⟨4,[59],0,a.size + 1⟩ :: B.map (shT (a.size + 2))):=by
 obtain ⟨_,h1⟩:=tk0_of ha
 obtain ⟨_,h2⟩:=tk0_of hb
 have hal:a.data.toList.length=a.size:=by rw [Array.length_toList];rfl
 have h3:=tk_ext (b:=10) (by decide) (59 :: b.data.toList) h1
 have h4:=tk_shift (a.size + 2) 0 b.data.toList
 rw [Nat.add_zero,h2] at h4
 rw [tk_br (.inr (.inr rfl)),show 0 + a.data.toList.length + 1 + 1=a.size + 2 by omega,h4] at h3
 have hsz:(joinTxt a b).size=a.size + b.size + 2:=by
  show (List.toArray _).size=_
  rw [List.size_toArray]
  simp only [List.length_cons,List.length_append,Array.length_toList]
  show a.size + (b.size + 1 + 1)=_
  omega
 unfold tokensOf
 rw [if_neg (by omega)]
 have hr:rest (joinTxt a b) 0=a.data.toList ++ 10 :: 59 :: b.data.toList:=by simp [rest,joinTxt]
 rw [hr,h3,show 0 + a.data.toList.length + 1=a.size + 1 by omega]
 simp [prep,shR]
theorem sim_a {a b:ByteArray} {A B:List Tk} (ha:tokensOf a=.ok A):SimS (envOf a A) (envOf (joinTxt a b) (A ++ ⟨4,[59],0,a.size + 1⟩ :: B.map (shT (a.size + 2)))) 0 0:=by
 obtain ⟨_,h1⟩:=tk0_of ha
 have hg:∀ i (hi:i < A.length),(A ++ ⟨4,[59],0,a.size + 1⟩ :: B.map (shT (a.size + 2)))[i + 0]?=some A[i]:=fun i hi=>by
  show (A ++ _:List Tk)[i]?=_
  rw [List.getElem?_append_left hi,List.getElem?_eq_getElem hi]
 have hal:a.data.toList.length=a.size:=by rw [Array.length_toList];rfl
 refine ⟨⟨fun i hi=>?_,.inr ?_,by simp [envOf]⟩,fun i hi=>?_,fun i hi=>?_,fun m k hk=>?_⟩
 ·have hi':i < A.length:=hi
  simp only [kindAt,textAt,numAt,envOf]
  rw [hg i hi',List.getElem?_eq_getElem hi']
  exact ⟨rfl,rfl,rfl⟩
 ·simp only [kindAt,textAt,envOf]
  simp
 ·have hi':i < A.length:=hi
  simp only [placeAt,envOf]
  rw [hg i hi',List.getElem?_eq_getElem hi']
  rfl
 ·exact (envOk h1).top i hi
 ·have hk':k ≤ a.data.toList.length:=hk
  show List.drop _ (List.take _ (joinTxt a b).data.toList)=_
  rw [Nat.add_zero,Nat.add_zero]
  show List.drop m (List.take k (a.data.toList ++ 10 :: 59 :: b.data.toList))=List.drop m (List.take k a.data.toList)
  rw [List.take_append_of_le_length hk']
theorem sim_b {a b:ByteArray} {A B:List Tk} (hb:tokensOf b=.ok B):SimS (envOf b B) (envOf (joinTxt a b) (A ++ ⟨4,[59],0,a.size + 1⟩ :: B.map (shT (a.size + 2)))) (A.length + 1) (a.size + 2):=by
 obtain ⟨_,h1⟩:=tk0_of hb
 have hg:∀ i (hi:i < B.length),(A ++ ⟨4,[59],0,a.size + 1⟩ :: B.map (shT (a.size + 2)))[i + (A.length + 1)]?=some (shT (a.size + 2) B[i]):=fun i hi=>by
  rw [List.getElem?_append_right (by omega),show i + (A.length + 1) - A.length=i + 1 by omega,List.getElem?_cons_succ,List.getElem?_map,List.getElem?_eq_getElem hi]
  rfl
 have hal:a.data.toList.length=a.size:=by rw [Array.length_toList];rfl
 refine ⟨⟨fun i hi=>?_,.inl ?_,by simp [envOf];omega⟩,fun i hi=>?_,fun i hi=>?_,fun m k hk=>?_⟩
 ·have hi':i < B.length:=hi
  simp only [kindAt,textAt,numAt,envOf]
  rw [hg i hi',List.getElem?_eq_getElem hi']
  exact ⟨rfl,rfl,rfl⟩
 ·simp only [kindAt,envOf]
  rw [List.getElem?_eq_none (by simp;omega)]
 ·have hi':i < B.length:=hi
  simp only [placeAt,envOf]
  rw [hg i hi',List.getElem?_eq_getElem hi']
  show a.size + 2 + B[i].at_=B[i].at_ + (a.size + 2)
  omega
 ·exact (envOk h1).top i hi
 ·have hk':k ≤ b.data.toList.length:=hk
  show List.drop _ (List.take _ (a.data.toList ++ 10 :: 59 :: b.data.toList))=List.drop m (List.take k b.data.toList)
  rw [show a.data.toList ++ 10 :: 59 :: b.data.toList=(a.data.toList ++ [10,59]) ++ b.data.toList by simp]
  have hl:(a.data.toList ++ [10,59]).length=a.size + 2:=by simp [hal]
  rw [show k + (a.size + 2)=(a.data.toList ++ [10,59]).length + k by omega,List.take_length_add_append,show m + (a.size + 2)=(a.data.toList ++ [10,59]).length + m by omega,List.drop_length_add_append]
theorem parse_ok {f g:Nat} {s:ByteArray} {l:List Unt} (h:parseRes f g s=.ok l):∃ L j,tokensOf s=.ok L∧units (envOf s L) f g 0=.ok l j∧¬ 60 < fo dU l:=by
 unfold parseRes at h
 cases ht:tokensOf s with
 | bad c a=>rw [ht] at h;cases h
 | ok L=>
  rw [ht] at h
  simp only at h
  cases hu:units (envOf s L) f g 0 with
  | out=>rw [hu] at h;cases h
  | bad c a=>rw [hu] at h;cases h
  | ok l' j=>
   rw [hu] at h
   simp only at h
   split at h
   ·cases h
   ·rename_i hd
    injection h with h
    subst h
    exact ⟨L,j,rfl,hu,hd⟩
theorem joins {f g g':Nat} {a b:ByteArray} {x y:List Unt} (ha:parseRes f g a=.ok x) (hb:parseRes f g' b=.ok y) (hs:a.size + b.size + 2 ≤ 65536):∃ l,parseRes f (g + (g' + 2)) (joinTxt a b)=.ok l∧l.map erU=(x ++ y).map erU:=by
 obtain ⟨A,j,hA,hx,hdx⟩:=parse_ok ha
 obtain ⟨B,k,hB,hy,hdy⟩:=parse_ok hb
 have hT:=tokens_join hA hB hs
 have S1:=sim_a (b:=b) (B:=B) hA
 have S2:=sim_b (a:=a) (A:=A) hB
 obtain ⟨L',hL'⟩:∃ L',A ++ ⟨4,[59],0,a.size + 1⟩ :: B.map (shT (a.size + 2))=L':=⟨_,rfl⟩
 rw [hL'] at hT S1 S2
 have hll:L'.length=B.length + (A.length + 1):=by rw [← hL'];simp;omega
 have he:units (envOf (joinTxt a b) L') f 1 ((envOf b B).L.length + (A.length + 1))=.ok [] L'.length:=by
  rw [units,if_pos (by show L'.length ≤ B.length + (A.length + 1);omega)]
  show R.ok [] (B.length + (A.length + 1))=_
  rw [hll]
 obtain ⟨y',h1,h2⟩:=simUnits S2 g' 0 y k (Nat.zero_le _) hy 1 [] _ he
 rw [Nat.zero_add] at h1
 have hm:units (envOf (joinTxt a b) L') f (g' + 2) ((envOf a A).L.length + 0)=.ok (y' ++ []) L'.length:=by
  rw [Nat.add_zero,show g' + 2=g' + 1 + 1 by rfl,units,if_neg (by show ¬ L'.length ≤ A.length;omega),if_pos]
  ·exact h1
  ·have:=S1.sim.stop
   show sees _ A.length _=true
   have hk:kindAt (envOf (joinTxt a b) L') A.length=4∧textAt (envOf (joinTxt a b) L') A.length=[59]:=by
    rw [← hL']
    simp [kindAt,textAt,envOf]
   unfold sees
   rw [hk.1,hk.2]
   decide
 obtain ⟨x',h3,h4⟩:=simUnits S1 g 0 x j (Nat.zero_le _) hx (g' + 2) _ _ hm
 have her:(x' ++ (y' ++ [])).map erU=(x ++ y).map erU:=by rw [List.append_nil,List.map_append,List.map_append,h4,h2]
 refine ⟨x' ++ (y' ++ []),?_,her⟩
 unfold parseRes
 rw [hT]
 simp only
 rw [Nat.add_zero] at h3
 rw [h3]
 simp only
 rw [if_neg]
 rw [fo_er her]
 unfold fo at hdx hdy ⊢
 rw [fo_le _ _ (by decide)] at hdx hdy ⊢
 intro u hu
 rcases List.mem_append.1 hu with h | h
 ·exact hdx u h
 ·exact hdy u h
end Go.Proofs.YtpoghableadkcaaGreatDoor
