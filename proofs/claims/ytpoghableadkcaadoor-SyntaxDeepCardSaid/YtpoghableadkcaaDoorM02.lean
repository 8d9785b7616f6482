/- Quo, RWord, RWordD, RWordS, RTok, joined. -/
import Derived.Test.YtpoghableadkcaaDoorM01
import Derived.Laws.BytesArg
import Derived.StillTailTactics
section
/- Between quotes: laws of the plain reading by places, words for an own row of bytes, and the walk of sextantref02.quoted. -/
namespace Go.Proofs.YtpoghableadkcaaDoor
open Go.RowKit

theorem quo_end {s:ByteArray} {i:Nat} (acc:Bs) (h:s.size=i):quo i acc (rest s i)=.bad 21 s.size:=by rw [rest_end (by omega),h];rfl
theorem quo_close {s:ByteArray} {i:Nat} (acc:Bs) (h:i < s.size) (h1:(s[i] == 34)=true):quo i acc (rest s i)=.ok (acc,i + 1):=by
 rw [rest_cons h]
 by_cases h2:i + 1 < s.size
 ·rw [rest_cons h2,quo];simp [h1]
 ·rw [rest_end (i:=i + 1) (by omega),quo];simp [h1]
theorem quo_bad {s:ByteArray} {i:Nat} (acc:Bs) (h:i < s.size) (h1:(s[i] == 34)=false) (h3:s[i].toNat < 32∨126 < s[i].toNat):quo i acc (rest s i)=.bad 22 i:=by
 have h4:(decide (s[i].toNat < 32) || decide (126 < s[i].toNat))=true:=by simpa using h3
 rw [rest_cons h]
 by_cases h2:i + 1 < s.size
 ·rw [rest_cons h2,quo,if_neg (by simp [h1]),if_pos h4]
 ·rw [rest_end (i:=i + 1) (by omega),quo,if_neg (by simp [h1]),if_pos h4]
theorem quo_step {s:ByteArray} {i:Nat} (acc:Bs) (h:i < s.size) (h1:(s[i] == 34)=false) (h3:¬ (s[i].toNat < 32∨126 < s[i].toNat)) (h5:(s[i] == 92)=false):
  quo i acc (rest s i)=quo (i + 1) (acc ++ [s[i]]) (rest s (i + 1)):=by
 have h4:(decide (s[i].toNat < 32) || decide (126 < s[i].toNat))=false:=by simpa using h3
 rw [rest_cons h]
 by_cases h2:i + 1 < s.size
 ·rw [rest_cons h2,quo,if_neg (by simp [h1]),if_neg (by simp [h4]),if_neg (by simp [h5])]
 ·rw [rest_end (i:=i + 1) (by omega),quo,if_neg (by simp [h1]),if_neg (by simp [h4]),if_neg (by simp [h5])];rfl
theorem quo_esc {s:ByteArray} {i:Nat} (acc:Bs) (x:UInt8) (h:i + 1 < s.size) (h5:(s[i] == 92)=true) (h6:esc s[i + 1]=some x):
  quo i acc (rest s i)=quo (i + 2) (acc ++ [x]) (rest s (i + 2)):=by
 have h7:=eq_of_beq h5
 rw [rest_cons (by omega),rest_cons h,quo,h7,if_neg (by decide),if_neg (by decide),if_pos (by decide),h6]
theorem quo_esc_bad {s:ByteArray} {i:Nat} (acc:Bs) (h:i < s.size) (h5:(s[i] == 92)=true) (h6:∀ h:i + 1 < s.size,esc s[i + 1]=none):
  quo i acc (rest s i)=.bad 22 i:=by
 have h7:=eq_of_beq h5
 rw [rest_cons h]
 by_cases h2:i + 1 < s.size
 ·rw [rest_cons h2,quo,h7,if_neg (by decide),if_neg (by decide),if_pos (by decide),h6 h2]
 ·rw [rest_end (i:=i + 1) (by omega),quo,h7,if_neg (by decide),if_neg (by decide),if_pos (by decide)]

/-- Bytes as cells. -/
def bcells (l:Bs):List Value:=l.map fun c=>Value.int .u8 (c.toNat:Int)
theorem bcells_len (l:Bs):(bcells l).length=l.length:=by simp [bcells]
theorem bcells_app (l:Bs) (c:UInt8):bcells l ++ [Value.int .u8 (c.toNat:Int)]=bcells (l ++ [c]):=by simp [bcells]

theorem below_own {w W w2:World} {e:TypeId} {size n:Nat} {v:Value} {xs:List Value} (hB:Below w.heap.size w W) (ho:W.ownsRow w.heap.size e size v n xs) (hg:W.grownBy w2 v.ownBlock):Below w.heap.size w w2:=by
 refine ⟨hg.os.trans hB.os,hg.tape.trans hB.tape,hg.output.trans hB.output,Nat.le_trans hB.size hg.size,fun k hk=>(hg.block k (Nat.lt_of_lt_of_le hk hB.size) ?_).trans (hB.block k hk)⟩
 intro hv
 rcases ho.2 with ⟨rfl,_⟩ | ⟨g,cap,cur,rfl,hb,_⟩
 ·cases hv
 ·have:k=g:=by simpa [Value.ownBlock] using hv
  omega
theorem own_kept {W w2:World} {base:Nat} {e t:TypeId} {size n g:Nat} {v:Value} {xs cs:List Value} (ho:W.ownsRow base e size v n xs) (hg:W.grownBy w2 v.ownBlock) (hH:Holds W g t cs) (hne:e ≠ t):Holds w2 g t cs:=by
 have hF:Fr (fun k=>v.ownBlock=some k) W w2:=(Fr.refl _ _).grown hg fun k hk _=>hk
 exact hF.holds hH (owns_ne_holds ho hH hne)

/-- A row of bytes of the call's own,made a string. -/
theorem conv_own {w:World} {base n:Nat} {v:Value} {xs:Bs} (h:w.ownsRow base 5 1 v n (bcells xs)):(convert 126 9 v).run Tryd.prog w=.ok (.string ⟨xs.toArray⟩) w:=by
 have hl:xs.length=n:=by have:=h.1;rw [bcells_len] at this;omega
 rcases h.2 with ⟨rfl,h0⟩ | ⟨g,cap,cur,rfl,hb,hg,hnc,hcm,hcs,ht⟩
 ·subst h0
  have:xs=[]:=List.length_eq_zero_iff.1 hl
  subst this
  exact run_convert_bytes_nil w 126 5 Tryd.underlying126 Tryd.underlying5 0 0 9 Tryd.underlying9
 ·have hx:=run_convert_bytes_arg (P:=Tryd.prog) w 126 5 Tryd.underlying126 Tryd.underlying5 g 0 n cap (xs.map fun c=>(c.toNat:Int)) (by simpa using hl) (fun i hi=>by
   have hc:=h.cellAt (g:=g) (j:=i) (by omega)
   rw [Nat.zero_add,hc]
   have hi':i < xs.length:=by omega
   simp [bcells,List.getElem?_eq_getElem hi',List.getD_eq_getElem?_getD]) 9 Tryd.underlying9
  rw [hx]
  have hm:(xs.map fun c=>(c.toNat:Int)).map (fun n=>UInt8.ofNat n.toNat)=xs:=by
   rw [List.map_map]
   refine (List.map_congr_left (g:=id) fun c _=>?_).trans (List.map_id _)
   simp
  simp only [strOfNums,hm]

/-- What quoted answers: k words for the token's struct. -/
def TokPost (R:Res (Tk × Nat)) (w:World) (e:Ending) (w':World):Prop:=
 Below w.heap.size w w'∧match R with
 | .ok (t,k)=>e=.returned (.tuple #[tok t.kind ⟨t.text.toArray⟩ t.num 0,.int .i64 k,mish 0 0])
 | .bad c a=>e=.returned (.tuple #[tok 0 ⟨#[]⟩ 0 0,.int .i64 0,mish c a])
def quoRes (i:Nat):Res (Bs × Nat)→Res (Tk × Nat)
 | .ok (b,k)=>.ok (⟨3,b,0,i⟩,k)
 | .bad x y=>.bad x y

/-- The two structs that are handed back,written. -/
theorem six {w wr:World} {W:Nat} {t:TypeId} {a b c d x y:Value} (hT:Holds wr W t [a,b,c,d]) (hM:Holds wr (W + 1) 26 [x,y]) (hB:Below W w wr) (a' b' c' d' x' y':Value):
  Holds ((((((wr.setCell ⟨W,0,none⟩ a').setCell ⟨W,1,none⟩ b').setCell ⟨W,2,none⟩ c').setCell ⟨W,3,none⟩ d').setCell ⟨W + 1,0,none⟩ x').setCell ⟨W + 1,1,none⟩ y') W t [a',b',c',d'] ∧
  Holds ((((((wr.setCell ⟨W,0,none⟩ a').setCell ⟨W,1,none⟩ b').setCell ⟨W,2,none⟩ c').setCell ⟨W,3,none⟩ d').setCell ⟨W + 1,0,none⟩ x').setCell ⟨W + 1,1,none⟩ y') (W + 1) 26 [x',y'] ∧
  Below W w ((((((wr.setCell ⟨W,0,none⟩ a').setCell ⟨W,1,none⟩ b').setCell ⟨W,2,none⟩ c').setCell ⟨W,3,none⟩ d').setCell ⟨W + 1,0,none⟩ x').setCell ⟨W + 1,1,none⟩ y'):=by
 refine ⟨?_,?_,?_⟩
 ·exact (((((hT.put 0 a').put 1 b').put 2 c').put 3 d').far (by simp) _).far (by simp) _
 ·exact (((((hM.far (by simp) _).far (by simp) _).far (by simp) _).far (by simp) _).put 0 x').put 1 y'
 ·exact (((((hB.setCell (Nat.le_refl _) _).setCell (Nat.le_refl _) _).setCell (Nat.le_refl _) _).setCell (Nat.le_refl _) _).setCell (Nat.le_succ _) _).setCell (Nat.le_succ _) _

theorem esc_some {c x:UInt8} (h:esc c=some x):(c=110∧x=10)∨(c=116∧x=9)∨(c=92∧x=92)∨(c=34∧x=34):=by
 unfold esc at h
 repeat (split at h;· rename_i h1;injection h with h;subst h;simp [eq_of_beq h1])
 cases h
theorem esc_none {c:UInt8} (h:esc c=none):(c == 110)=false∧(c == 116)=false∧(c == 92)=false∧(c == 34)=false:=by
 unfold esc at h
 repeat (split at h;· cases h)
 simp_all

theorem own_push {w:World} {base:Nat} {v:Value} {acc:Bs} (c:UInt8) (h:w.ownsRow base 5 1 v (acc.length + 1) (bcells acc ++ [Value.int .u8 (c.toNat:Int)])):w.ownsRow base 5 1 v (acc ++ [c]).length (bcells (acc ++ [c])):=by
 have e:(acc ++ [c]).length=acc.length + 1:=by simp
 rw [e,← bcells_app]
 exact h

end Go.Proofs.YtpoghableadkcaaDoor
end
section
/- The walk of sextantref02.word. -/
namespace Go.Proofs.YtpoghableadkcaaDoor
open Go.RowKit

theorem tw_more (p:UInt8→Bool) {s:ByteArray} {k:Nat} (h:k < s.size) (hp:p s[k]=true):((rest s k).takeWhile p).length=((rest s (k + 1)).takeWhile p).length + 1:=by
 rw [rest_cons h,List.takeWhile_cons,if_pos hp];simp
theorem tw_stop (p:UInt8→Bool) {s:ByteArray} {k:Nat} (h:k < s.size) (hp:p s[k]=false):((rest s k).takeWhile p).length=0:=by
 rw [rest_cons h,List.takeWhile_cons,if_neg (by simp [hp])];rfl
theorem tw_end (p:UInt8→Bool) {s:ByteArray} {k:Nat} (h:s.size ≤ k):((rest s k).takeWhile p).length=0:=by
 rw [rest_end h];rfl

/-- A piece of a text. -/
theorem piece (s:ByteArray) (i k:Nat):s.extract i k=⟨((rest s i).take (k - i)).toArray⟩:=by
 apply ByteArray.ext
 rw [ByteArray.data_extract]
 apply Array.ext'
 rw [Array.toList_extract]
 simp [rest,List.take_drop]
 
theorem isIn_of (l:List Bs) (xs:Bs):isIn l ⟨xs.toArray⟩=l.contains xs:=by
 unfold isIn
 rw [List.contains_eq_any_beq,ByteArray.toList_eq]

theorem word_ltr_bad {s:ByteArray} {i n:Nat} (h:i < s.size) (hL:ltr s[i].toNat=true) (hn:((rest s i).takeWhile lod).length=n) (h32:32 < n):word i (rest s i)=.bad 22 i:=by
 rw [rest_cons h] at hn ⊢
 unfold word
 simp only [hL,if_true,hn,h32]
theorem word_ltr_ok {s:ByteArray} {i n:Nat} (h:i < s.size) (hL:ltr s[i].toNat=true) (hn:((rest s i).takeWhile lod).length=n) (h32:¬ 32 < n):
  word i (rest s i)=.ok (⟨if names.contains ((rest s i).take n) then 4 else 1,(rest s i).take n,0,i⟩,i + n):=by
 rw [rest_cons h] at hn ⊢
 unfold word
 simp only [hL,if_true,hn,h32,if_false]

/-- The structs of the answer as they lie at first. -/
theorem laid34 (w:World) (t:TypeId) (cs ds:Array Value):Holds ((w.alloc (.cells cs t)).alloc (.cells ds 26)) w.heap.size t cs.toList∧Holds ((w.alloc (.cells cs t)).alloc (.cells ds 26)) (w.heap.size + 1) 26 ds.toList ∧
  Below w.heap.size w ((w.alloc (.cells cs t)).alloc (.cells ds 26)):=by
 refine ⟨(Holds.new w _ _).alloc _,?_,((Below.refl _ _).alloc (Nat.le_refl _) _).alloc (by simp) _⟩
 have:=Holds.new (w.alloc (.cells cs t)) 26 ds
 simpa using this

end Go.Proofs.YtpoghableadkcaaDoor
end
section
/- The walk of sextantref02.word where a number begins. -/
namespace Go.Proofs.YtpoghableadkcaaDoor
open Go.RowKit

theorem val_app (xs:Bs) (v:Nat) (c:UInt8):val v (xs ++ [c])=10 * val v xs + (c.toNat - 48):=by
 unfold val
 rw [List.foldl_append]
 rfl
theorem take_next {s:ByteArray} {i k:Nat} (hik:i ≤ k) (hk:k < s.size):(rest s i).take (k + 1 - i)=(rest s i).take (k - i) ++ [s[k]]:=by
 have e:k + 1 - i=(k - i) + 1:=by omega
 have hl:k - i < (rest s i).length:=by unfold rest;rw [List.length_drop];simp;omega
 rw [e,List.take_add_one,List.getElem?_eq_getElem hl]
 have:(rest s i)[k - i]?=some s[k]:=by
  unfold rest
  rw [List.getElem?_drop,show i + (k - i)=k by omega]
  exact List.getElem?_eq_getElem (by simpa using hk)
 rw [List.getElem?_eq_getElem hl] at this
 rw [this];rfl
theorem rest_drop (s:ByteArray) (i n:Nat):(rest s i).drop n=rest s (i + n):=by unfold rest;rw [List.drop_drop]
theorem pow_ten {V m d:Nat} (h:V < 10 ^ m) (hd:d ≤ 9):10 * V + d < 10 ^ (m + 1):=by rw [Nat.pow_succ];omega

theorem word_dig {s:ByteArray} {i n:Nat} (h:i < s.size) (hL:ltr s[i].toNat=false) (hD:dig s[i].toNat=true) (hn:((rest s i).takeWhile isDig).length=n):
  word i (rest s i)=if 10 < n || 2147483647 < val 0 ((rest s i).take n) || ((rest s (i + n)).head?.any fun d=>ltr d.toNat) then .bad 22 i else .ok (⟨2,(rest s i).take n,val 0 ((rest s i).take n),i⟩,i + n):=by
 rw [← rest_drop]
 rw [rest_cons h] at hn ⊢
 unfold word
 simp only [hL,Bool.false_eq_true,if_false,isDig,hD,if_true]
 rw [hn]
theorem head_at {s:ByteArray} {k:Nat} (h:k < s.size):((rest s k).head?.any fun d=>ltr d.toNat)=ltr s[k].toNat:=by rw [rest_cons h];rfl
theorem head_end {s:ByteArray} {k:Nat} (h:s.size ≤ k):((rest s k).head?.any fun d=>ltr d.toNat)=false:=by rw [rest_end h];rfl
end Go.Proofs.YtpoghableadkcaaDoor
end
section
/- The walk of sextantref02.word where other bytes begin, and the three together. -/
namespace Go.Proofs.YtpoghableadkcaaDoor
open Go.RowKit

theorem piece1 {s:ByteArray} {i:Nat} (h:i < s.size):s.extract i (i + 1)=⟨#[s[i]]⟩:=by
 rw [piece,rest_cons h,show i + 1 - i=1 by omega];rfl
theorem piece2 {s:ByteArray} {i:Nat} (h:i + 1 < s.size):s.extract i (i + 2)=⟨#[s[i],s[i + 1]]⟩:=by
 rw [piece,rest_cons (by omega),rest_cons h,show i + 2 - i=2 by omega];rfl
theorem word_other {s:ByteArray} {i:Nat} (h:i < s.size) (hL:ltr s[i].toNat=false) (hD:dig s[i].toNat=false) (hq:(s[i] == 34)=false):word i (rest s i)=sign i (rest s i):=by
 rw [rest_cons h]
 unfold word
 simp only [hL,isDig,hD,hq,Bool.false_eq_true,if_false]
theorem word_quo {s:ByteArray} {i:Nat} (h:i < s.size) (hL:ltr s[i].toNat=false) (hD:dig s[i].toNat=false) (hq:(s[i] == 34)=true):word i (rest s i)=quoRes i (quo (i + 1) [] (rest s (i + 1))):=by
 rw [rest_cons h]
 unfold word
 simp only [hL,isDig,hD,hq,Bool.false_eq_true,if_false,if_true]
 cases quo (i + 1) [] (rest s (i + 1)) with
 | bad x y=>rfl
 | ok a=>rfl
theorem sign_two {s:ByteArray} {i:Nat} (h:i + 1 < s.size) (h2:twos.contains [s[i],s[i + 1]]=true):sign i (rest s i)=.ok (⟨4,[s[i],s[i + 1]],0,i⟩,i + 2):=by
 rw [rest_cons (by omega),rest_cons h,sign,if_pos h2]
theorem sign_one2 {s:ByteArray} {i:Nat} (h:i + 1 < s.size) (h2:twos.contains [s[i],s[i + 1]]=false) (h1:isOne s[i].toNat=true):sign i (rest s i)=.ok (⟨4,[s[i]],0,i⟩,i + 1):=by
 rw [rest_cons (by omega),rest_cons h,sign,if_neg (by rw [h2];decide),if_pos h1]
theorem sign_none2 {s:ByteArray} {i:Nat} (h:i + 1 < s.size) (h2:twos.contains [s[i],s[i + 1]]=false) (h1:isOne s[i].toNat=false):sign i (rest s i)=.bad 20 i:=by
 rw [rest_cons (by omega),rest_cons h,sign,if_neg (by rw [h2];decide),if_neg (by simp [h1])]
theorem sign_one1 {s:ByteArray} {i:Nat} (h:i < s.size) (h':¬ i + 1 < s.size) (h1:isOne s[i].toNat=true):sign i (rest s i)=.ok (⟨4,[s[i]],0,i⟩,i + 1):=by
 rw [rest_cons h,rest_end (i:=i + 1) (by omega),sign,if_pos h1]
theorem sign_none1 {s:ByteArray} {i:Nat} (h:i < s.size) (h':¬ i + 1 < s.size) (h1:isOne s[i].toNat=false):sign i (rest s i)=.bad 20 i:=by
 rw [rest_cons h,rest_end (i:=i + 1) (by omega),sign,if_neg (by simp [h1])]

end Go.Proofs.YtpoghableadkcaaDoor
end
section
/- The walk of sextantref02.Tokens. -/
namespace Go.Proofs.YtpoghableadkcaaDoor
open Go.RowKit

theorem blank_code:∀ (l:Bs) (m:Bool) (i c a:Nat),blank m i l=.bad c a→c=21
 | [],m,i,c,a,h=>by cases m <;> simp [blank] at h;exact h.1.symm
 | [x],m,i,c,a,h=>by
  cases m <;> simp [blank] at h
  ·split at h <;> cases h
  ·exact h.1.symm
 | x :: d :: r,m,i,c,a,h=>by
  unfold blank at h
  split at h
  ·split at h
   ·exact blank_code r _ _ _ _ h
   ·exact blank_code (d :: r) _ _ _ _ h
  ·split at h
   ·exact blank_code r _ _ _ _ h
   ·split at h
    ·exact blank_code (d :: r) _ _ _ _ h
    ·cases h
theorem quo_code:∀ (l acc:Bs) (i c a:Nat),quo i acc l=.bad c a→0 < c
 | [],acc,i,c,a,h=>by simp [quo] at h;omega
 | [x],acc,i,c,a,h=>by
  unfold quo at h
  split at h
  ·cases h
  ·repeat (split at h;· injection h with h;omega)
   injection h with h;omega
 | x :: d :: r,acc,i,c,a,h=>by
  unfold quo at h
  split at h
  ·cases h
  ·split at h
   ·injection h with h;omega
   ·split at h
    ·split at h
     ·exact quo_code r _ _ _ _ h
     ·injection h with h;omega
    ·exact quo_code (d :: r) _ _ _ _ h
theorem sign_code {l:Bs} {i c a:Nat} (h:sign i l=.bad c a):0 < c:=by
 unfold sign at h
 split at h
 ·injection h with h;omega
 ·split at h
  ·cases h
  ·injection h with h;omega
 ·split at h
  ·cases h
  ·split at h
   ·cases h
   ·injection h with h;omega
theorem word_code {l:Bs} {i c a:Nat} (h:word i l=.bad c a):0 < c:=by
 unfold word at h
 split at h
 ·injection h with h;omega
 ·split at h
  ·simp only at h
   split at h
   ·injection h with h;omega
   ·cases h
  ·split at h
   ·simp only at h
    split at h
    ·injection h with h;omega
    ·cases h
   ·split at h
    ·split at h
     ·rename_i x y hq
      injection h with h _;subst h
      exact quo_code _ _ _ _ _ hq
     ·cases h
    ·exact sign_code h
theorem sign_at {l:Bs} {i:Nat} {t:Tk} {n:Nat} (h:sign i l=.ok (t,n)):t.at_=i:=by
 unfold sign at h
 split at h
 ·cases h
 ·split at h
  ·injection h with h;injection h with h _;subst h;rfl
  ·cases h
 ·split at h
  ·injection h with h;injection h with h _;subst h;rfl
  ·split at h
   ·injection h with h;injection h with h _;subst h;rfl
   ·cases h
theorem word_at {l:Bs} {i:Nat} {t:Tk} {n:Nat} (h:word i l=.ok (t,n)):t.at_=i:=by
 unfold word at h
 split at h
 ·cases h
 ·split at h
  ·simp only at h
   split at h
   ·cases h
   ·injection h with h;injection h with h _;subst h;rfl
  ·split at h
   ·simp only at h
    split at h
    ·cases h
    ·injection h with h;injection h with h _;subst h;rfl
   ·split at h
    ·split at h
     ·cases h
     ·injection h with h;injection h with h _;subst h;rfl
    ·exact sign_at h

/-- What is told behind words that are read already. -/
def prep (acc:List Tk):Res (List Tk)→Res (List Tk)
 | .ok ts=>.ok (acc ++ ts)
 | .bad c a=>.bad c a
theorem prep_nil (R:Res (List Tk)):prep [] R=R:=by cases R <;> rfl
theorem prep_prep (a b:List Tk) (R:Res (List Tk)):prep a (prep b R)=prep (a ++ b) R:=by cases R <;> simp [prep]

theorem rest_len (s:ByteArray) (i:Nat):(rest s i).length=s.size - i:=by unfold rest;rw [List.length_drop];simp
theorem tk_bad {s:ByteArray} {i c a:Nat} (h:blank false i (rest s i)=.bad c a):tk i (rest s i)=.bad c a:=by rw [tk_eq,h]
theorem tk_end {s:ByteArray} {i k:Nat} (h:blank false i (rest s i)=.ok k) (hk:s.size ≤ k):tk i (rest s i)=.ok []:=by
 have h1:=blank_ge _ _ _ _ h
 rw [tk_eq,h]
 simp only
 rw [rest_drop,rest_end (by omega)]
theorem tk_wbad {s:ByteArray} {i k c a:Nat} (h:blank false i (rest s i)=.ok k) (hk:k < s.size) (hw:word k (rest s k)=.bad c a):tk i (rest s i)=.bad c a:=by
 have h1:=blank_ge _ _ _ _ h
 rw [tk_eq,h]
 simp only
 rw [rest_drop,show i + (k - i)=k by omega]
 rw [rest_cons hk] at hw ⊢
 simp only [hw]
theorem tk_step {s:ByteArray} {i k n:Nat} {t:Tk} (h:blank false i (rest s i)=.ok k) (hk:k < s.size) (hw:word k (rest s k)=.ok (t,n)):tk i (rest s i)=prep [t] (tk n (rest s n)):=by
 have h1:=blank_ge _ _ _ _ h
 have h2:=word_ge hw
 rw [tk_eq,h]
 simp only
 rw [rest_drop,show i + (k - i)=k by omega]
 have e:(rest s k).drop (n - k)=rest s n:=by rw [rest_drop,show k + (n - k)=n by omega]
 rw [rest_cons hk] at hw e ⊢
 simp only [hw,e]
 cases tk n (rest s n) <;> rfl

/-- A text's words,or why there are none. -/
def tokensOf (s:ByteArray):Res (List Tk):=if 65536 < s.size then .bad 2 0 else tk 0 (rest s 0)
def tkCells (t:Tk):List Value:=[.int .i64 (t.kind:Int),.string ⟨t.text.toArray⟩,.int .i64 (t.num:Int),.int .i64 (t.at_:Int)]
def flatT (ts:List Tk):List Value:=ts.flatMap tkCells
theorem flatT_app (ts:List Tk) (t:Tk):flatT ts ++ tkCells t=flatT (ts ++ [t]):=by simp [flatT]

def TokensPost (E:TypeId) (R:Res (List Tk)) (w:World) (e:Ending) (w':World):Prop:=
 Below w.heap.size w w'∧match R with
 | .ok ts=>∃ v,e=.returned (.tuple #[v,mish 0 0])∧w'.ownsRow w.heap.size E 4 v ts.length (flatT ts)
 | .bad c a=>0 < c∧e=.returned (.tuple #[.slice none 0 0,mish c a])

theorem own_put {w:World} {base g i:Nat} {e t:TypeId} {size n:Nat} {v u:Value} {xs cs:List Value} (h:w.ownsRow base e size v n xs) (hH:Holds w g t cs) (hne:e ≠ t):(w.setCell ⟨g,i,none⟩ u).ownsRow base e size v n xs:=
 ((Fr.refl (fun k=>k=g) w).setCell (fun _=>rfl) u).owns h (fun k hk e=>owns_ne_holds h hH hne (by rw [hk,e]))

theorem cells_of_new (w:World) (m:Nat) (hm:w.heap.size=m) (cs:List Value) (t:TypeId):∀ (j:Nat) (u:Value),cs[j]?=some u→(w.alloc (.cells cs.toArray t)).cell? ((⟨m,0,none⟩:Addr).add j)=some u:=by
 intro j u hu
 subst hm
 rw [Addr.add_lit,Nat.zero_add,(Holds.new w t cs.toArray).cell j]
 exact hu
theorem size_setCell (w:World) (p:Addr) (u:Value):(w.setCell p u).heap.size=w.heap.size:=by simp [World.setCell]

end Go.Proofs.YtpoghableadkcaaDoor
end
