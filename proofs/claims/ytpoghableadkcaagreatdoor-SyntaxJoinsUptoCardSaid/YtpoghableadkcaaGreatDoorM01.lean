/- Small, Names, Sep, Pure, Blank, joined. -/
import Derived.Test.YtpoghableadkcaaGreatDoorRows
import Derived.WalkKit
import Derived.WalkSpells
import Derived.WalkLawsBesides
import Derived.Deep.Draws
import Derived.Lib.Hide
import Derived.BigQuiet
import Derived.Deep.QuietTactic
import Derived.Laws.OwnMore
import Derived.Laws.Rows
import Derived.Maps.AppendAt
import Derived.RangeFuncBox
section
namespace Go.Proofs.YtpoghableadkcaaGreatDoor
open Go.RowKit

/-- A digit;a byte of which names are begun. -/
def dig (c:Nat):Bool:=decide (48 ≤ c) && decide (c ≤ 57)
def ltr (c:Nat):Bool:=(decide (97 ≤ c) && decide (c ≤ 122)) || (decide (65 ≤ c) && decide (c ≤ 90)) || decide (c=95)

theorem dec_cast (a b:Nat):decide ((a:Int) ≤ (b:Int))=decide (a ≤ b):=by rw [Bool.eq_iff_iff];simp

theorem refDigit (c:Nat) (w:World):Calls Tryz.prog 63 #[.int .u8 (c:Int)] w fun e w'=>e=.returned (.bool (dig c))∧w'=w:=by
 go_enter Tryz.func63,Tryz.ntmps63
 go_wp2 <;> (go_ret;refine ⟨?_,rfl⟩;unfold dig;refine congrArg Ending.returned (congrArg Value.bool ?_);rw [Bool.eq_iff_iff];simp;try omega)
theorem refLetter (c:Nat) (w:World):Calls Tryz.prog 62 #[.int .u8 (c:Int)] w fun e w'=>e=.returned (.bool (ltr c))∧w'=w:=by
 go_enter Tryz.func62,Tryz.ntmps62
 go_wp2 <;> (go_ret;refine ⟨?_,rfl⟩;unfold ltr;refine congrArg Ending.returned (congrArg Value.bool ?_);rw [Bool.eq_iff_iff];simp;try omega)
theorem lexDigit (c:Nat) (w:World):Calls Tryz.prog 134 #[.int .u8 (c:Int)] w fun e w'=>e=.returned (.bool (dig c))∧w'=w:=by
 go_enter Tryz.func134,Tryz.ntmps134
 go_wp2 <;> (go_ret;refine ⟨?_,rfl⟩;unfold dig;refine congrArg Ending.returned (congrArg Value.bool ?_);rw [Bool.eq_iff_iff];simp;try omega)

def ltr' (b:Int) (c:Nat):Bool:=(decide (97 ≤ b) && decide (b ≤ 122)) || decide (c=95)
set_option maxRecDepth 100000 in
theorem ltr_low:∀ c:Fin 256,ltr' (bits BinOp.or IntKind.u8 (c.val:Int) 32) c.val=ltr c.val:=by decide
theorem lexLetter (c:Nat) (hc:c < 256) (w:World):Calls Tryz.prog 131 #[.int .u8 (c:Int)] w fun e w'=>e=.returned (.bool (ltr c))∧w'=w:=by
 have hl:=ltr_low ⟨c,hc⟩
 simp only at hl
 have HL:=Lib.hid hl
 clear hl
 go_enter Tryz.func131,Tryz.ntmps131
 go_wp2 <;> (go_ret;refine ⟨?_,rfl⟩;refine congrArg Ending.returned (congrArg Value.bool ?_);rw [← HL.out];unfold ltr';generalize bits BinOp.or IntKind.u8 (c:Int) 32=b at *;rw [Bool.eq_iff_iff];simp;try omega)

/-- A mishap;a token. -/
def mish (code:Nat) (i:Nat):Value:=.agg #[.int .i64 code,.int .i64 i]
def tok (k:Nat) (s:ByteArray) (n i:Nat):Value:=.agg #[.int .i64 k,.string s,.int .i64 n,.int .i64 i]

theorem refBad (x y:Nat) (w:World):Calls Tryz.prog 25 #[.int .i64 (x:Int),.int .i64 (y:Int)] w fun e w'=>e=.returned (mish x y)∧Below w.heap.size w w':=by
 go_enter Tryz.func25,Tryz.ntmps25
 go_wp2
 refine bodyPost_ret (v:=mish x y) (by simp [results,Tryz.results25,go_sem];rfl) rfl ⟨rfl,?_⟩
 exact (Below.refl _ _).alloc (Nat.le_refl _) _

/-- The reserved words. -/
def names:List (List UInt8):=[[97,99,116,105,118,101],[97,115,115,101,114,116],[97,116,111,109,105,99],[98,105,116],[98,111,111,108],[98,114,101,97,107],[98,121,116,101],[99,104,97,110],[100,95,115,116,101,112],[100,111],[101,108,115,101],[101,109,112,116,121],[101,118,97,108],[102,97,108,115,101],[102,105],[102,117,108,108],[103,111,116,111],[105,102],[105,110,105,116],[105,110,108,105,110,101],[105,110,116],[108,101,110],[108,116,108],[109,116,121,112,101],[110,101,109,112,116,121],[110,101,118,101,114],[110,102,117,108,108],[110,112,95],[111,100],[111,102],[112,105,100],[112,114,105,110,116,102],[112,114,111,99,116,121,112,101],[114,117,110],[115,104,111,114,116],[115,107,105,112],[116,105,109,101,111,117,116],[116,114,117,101],[116,121,112,101,100,101,102],[117,110,108,101,115,115],[95],[95,112,105,100],[95,110,114,95,112,114]]
def twos:List (List UInt8):=[[58,58],[33,33],[63,63],[61,61],[33,61],[60,61],[62,61],[60,60],[62,62],[38,38],[124,124],[43,43],[45,45],[45,62]]
def ones:List Nat:=[123,125,40,41,91,93,59,44,58,46,33,63,61,60,62,43,45,42,47,37,38,124,94,126,64]

def isIn (l:List (List UInt8)) (s:ByteArray):Bool:=l.any fun x=>s.toList == x
def isOne (c:Nat):Bool:=ones.any fun x=>c == x

theorem refTwo (s:ByteArray) (w:World):Calls Tryz.prog 66 #[.string s] w fun e w'=>e=.returned (.bool (isIn twos s))∧w'=w:=by
 go_enter Tryz.func66,Tryz.ntmps66
 go_wp2 <;> (go_ret;refine ⟨congrArg Ending.returned (congrArg Value.bool ?_),rfl⟩;simp_all [isIn,twos])
theorem refOne (c:Nat) (w:World):Calls Tryz.prog 67 #[.int .u8 (c:Int)] w fun e w'=>e=.returned (.bool (isOne c))∧w'=w:=by
 go_enter Tryz.func67,Tryz.ntmps67
 go_wp2 <;> (go_ret;refine ⟨congrArg Ending.returned (congrArg Value.bool ?_),rfl⟩;simp_all [isOne,ones];try omega)
end Go.Proofs.YtpoghableadkcaaGreatDoor
end
section
namespace Go.Proofs.YtpoghableadkcaaGreatDoor
open Go.RowKit
set_option maxHeartbeats 4000000 in
set_option maxRecDepth 100000 in
theorem refName (s:ByteArray) (w:World):Calls Tryz.prog 64 #[.string s] w fun e w'=>e=.returned (.bool (isIn names s))∧w'=w:=by
 go_enter Tryz.func64,Tryz.ntmps64
 go_wp2 <;> (go_ret;refine ⟨congrArg Ending.returned (congrArg Value.bool ?_),rfl⟩;simp_all [isIn,names])
end Go.Proofs.YtpoghableadkcaaGreatDoor
end
section
/- Words for memory: a block that is known whole; what a call leaves alone. -/
namespace Go.Proofs.YtpoghableadkcaaGreatDoor
open Go.RowKit

/-- Block g holds just the cells cs,of element type t,none frozen. -/
def Holds (w:World) (g:Nat) (t:TypeId) (cs:List Value):Prop:=w.heap[g]?=some (.cells cs.toArray t (0,0))

section
variable {w w':World} {g:Nat} {t:TypeId} {cs:List Value}
theorem Holds.lt (h:Holds w g t cs):g < w.heap.size:=(Array.getElem?_eq_some_iff.1 h).1
theorem Holds.cell (h:Holds w g t cs) (i:Nat):w.cell? ⟨g,i,none⟩=cs[i]?:=by
 rw [cell_of_row w g i cs.toArray t (0,0) h];simp
theorem Holds.free (h:Holds w g t cs) (i:Nat):w.frozen? ⟨g,i,none⟩=false:=frozen_of_row w g i cs.toArray t h
theorem Holds.new (w:World) (t:TypeId) (cs:Array Value):Holds (w.alloc (.cells cs t)) w.heap.size t cs.toList:=by
 unfold Holds;rw [heap_alloc_new]
theorem Holds.alloc (h:Holds w g t cs) (o:Obj):Holds (w.alloc o) g t cs:=(Below.heap_alloc w o g h.lt).trans h
theorem Holds.put (h:Holds w g t cs) (i:Nat) (u:Value):Holds (w.setCell ⟨g,i,none⟩ u) g t (cs.set i u):=by
 have e:=heap_setCell_same w g i cs.toArray t u h
 unfold Holds;rw [e];simp
theorem Holds.far (h:Holds w g t cs) {p:Addr} (hp:g ≠ p.block) (u:Value):Holds (w.setCell p u) g t cs:=(Below.heap_setCell w p u g hp).trans h
theorem Holds.ne_of_type {g':Nat} {t':TypeId} {cs':List Value} (h:Holds w g t cs) (h':Holds w g' t' cs') (hne:t ≠ t'):g ≠ g':=by
 rintro rfl
 unfold Holds at h h'
 rw [h] at h'
 injection h' with h'
 injection h' with _ ht
 exact hne ht
theorem Holds.of_eq (h:Holds w g t cs) (he:w'.heap[g]?=w.heap[g]?):Holds w' g t cs:=he.trans h
end

/-- Outside F nothing that was there has turned. -/
structure Fr (F:Nat→Prop) (w w':World):Prop where
 os:w'.os=w.os
 tape:w'.tape=w.tape
 output:w'.output=w.output
 size:w.heap.size ≤ w'.heap.size
 block:∀ k,k < w.heap.size→¬ F k→w'.heap[k]?=w.heap[k]?

section
variable {F G:Nat→Prop} {a w w':World}
theorem Fr.refl (F:Nat→Prop) (w:World):Fr F w w:=⟨rfl,rfl,rfl,Nat.le_refl _,fun _ _ _=>rfl⟩
theorem Fr.mono (h:Fr F w w') (hF:∀ k,k < w.heap.size→F k→G k):Fr G w w':=⟨h.os,h.tape,h.output,h.size,fun k hk hn=>h.block k hk fun hf=>hn (hF k hk hf)⟩
theorem Fr.trans (h:Fr F a w) (k:Fr G w w') (hG:∀ i,i < a.heap.size→G i→F i):Fr F a w':=
 ⟨k.os.trans h.os,k.tape.trans h.tape,k.output.trans h.output,Nat.le_trans h.size k.size,
  fun i hi hn=>(k.block i (Nat.lt_of_lt_of_le hi h.size) fun hg=>hn (hG i hi hg)).trans (h.block i hi hn)⟩
theorem Fr.of_below (h:Below w.heap.size w w') (F:Nat→Prop):Fr F w w':=⟨h.os,h.tape,h.output,h.size,fun k hk _=>h.block k hk⟩
theorem Fr.to_below {B:Nat} (h:Fr F w w') (hB:B ≤ w.heap.size) (hF:∀ k,k < B→¬ F k):Below B w w':=⟨h.os,h.tape,h.output,h.size,fun k hk=>h.block k (by omega) (hF k hk)⟩
theorem Fr.drew (h:Fr F a w):Fr F a w.drew:=⟨h.os,h.tape,h.output,h.size,h.block⟩
theorem Fr.drewN (h:Fr F a w) (n:Nat):Fr F a (w.drewN n):=⟨h.os,h.tape,h.output,h.size,h.block⟩
theorem Fr.alloc (h:Fr F a w) (o:Obj):Fr F a (w.alloc o):=
 ⟨h.os,h.tape,h.output,Nat.le_trans h.size (by simp),fun k hk hn=>(Below.heap_alloc _ _ _ (Nat.lt_of_lt_of_le hk h.size)).trans (h.block k hk hn)⟩
theorem Fr.setCell (h:Fr F a w) {p:Addr} (hp:p.block < a.heap.size→F p.block) (u:Value):Fr F a (w.setCell p u):=
 ⟨h.os,h.tape,h.output,by simpa [World.setCell] using h.size,fun k hk hn=>(Below.heap_setCell _ _ _ _ (by rintro rfl;exact hn (hp hk))).trans (h.block k hk hn)⟩
theorem Fr.grown {row:Option Nat} (h:Fr F a w) (hg:w.grownBy w' row) (hr:∀ k,row=some k→k < a.heap.size→F k):Fr F a w':=
 ⟨hg.os.trans h.os,hg.tape.trans h.tape,hg.output.trans h.output,Nat.le_trans h.size hg.size,
  fun k hk hn=>(hg.block k (Nat.lt_of_lt_of_le hk h.size) fun e=>hn (hr k e.symm hk)).trans (h.block k hk hn)⟩
theorem Fr.holds {g:Nat} {t:TypeId} {cs:List Value} (h:Fr F w w') (hh:Holds w g t cs) (hn:¬ F g):Holds w' g t cs:=hh.of_eq (h.block g hh.lt hn)
theorem Fr.owns {base:Nat} {e:TypeId} {size n:Nat} {v:Value} {xs:List Value} (h:Fr F w w') (ho:w.ownsRow base e size v n xs) (hn:∀ g,v.ownBlock=some g→¬ F g):w'.ownsRow base e size v n xs:=by
 refine ⟨ho.1,?_⟩
 rcases ho.2 with h0 | ⟨g,cap,cur,rfl,hb,hgg,rest⟩
 ·exact .inl h0
 ·exact .inr ⟨g,cap,cur,rfl,hb,(h.block g (Array.getElem?_eq_some_iff.1 hgg).1 (hn g rfl)).trans hgg,rest⟩
end

theorem owns_ne_holds {w:World} {base:Nat} {e t:TypeId} {size n:Nat} {v:Value} {xs cs:List Value} {g:Nat} (h:w.ownsRow base e size v n xs) (hg:Holds w g t cs) (hne:e ≠ t):v.ownBlock ≠ some g:=by
 rcases h.2 with ⟨rfl,_⟩ | ⟨g',cap,cur,rfl,_,hh,_⟩
 ·simp [Value.ownBlock]
 ·intro he
  have:g'=g:=by simpa [Value.ownBlock] using he
  subst this
  unfold Holds at hg
  rw [hh] at hg
  injection hg with hg
  injection hg with _ ht
  exact hne ht


/-- A store in a block that is known whole,and one elsewhere. -/
theorem Holds.put_ {w:World} {g:Nat} {t:TypeId} {cs:List Value} (h:Holds w g t cs) (i:Nat) (u:Value):Holds (w.setCell ⟨g,i,none⟩ u) g t (cs.set i u):=h.put i u
theorem Holds.below {w w':World} {g B:Nat} {t:TypeId} {cs:List Value} (h:Holds w g t cs) (hb:Below B w w') (hg:g < B):Holds w' g t cs:=h.of_eq (hb.block g hg)
theorem Holds.belowAll {w w':World} {g:Nat} {t:TypeId} {cs:List Value} (h:Holds w g t cs) (hb:Below w.heap.size w w'):Holds w' g t cs:=h.below hb h.lt
/-- An own row that is not empty has a head. -/
theorem owns_head {w:World} {base:Nat} {e:TypeId} {size n cap:Nat} {a:Option Addr} {xs:List Value} (h:w.ownsRow base e size (.slice a n cap) n xs) (hn:0 < n):
  ∃ g,a=some ⟨g,0,none⟩∧base ≤ g∧g < w.heap.size∧n ≤ cap∧cap ≤ maxLen∧(∀ j,j < n * size→w.cell? ⟨g,j,none⟩=xs[j]?)∧∀ j,w.frozen? ⟨g,j,none⟩=false:=by
 rcases h.2 with ⟨h0,h1⟩ | ⟨g,cap',cur,hv,hb,hg,hnc,hcm,hcs,ht⟩
 ·omega
 ·have hv':=hv
  injection hv with h1 h2 h3
  subst h1;subst h3
  exact ⟨g,rfl,hb,(Array.getElem?_eq_some_iff.1 hg).1,hnc,hcm,fun j hj=>h.cellAt j hj,fun j=>h.frozenAt j⟩

theorem Tryz.info5:(Tryz.prog.info? 5).map (fun i=>(i.zero,i.size,i.bytes))=some (some (.int .u8 0),1,1):=by kernel_rfl
theorem Tryz.info93:(Tryz.prog.info? 93).map (fun i=>(i.zero,i.size,i.bytes))=some (some (.agg #[.int .i64 0,.string ByteArray.empty,.int .i64 0,.int .i64 0]),4,40):=by kernel_rfl
theorem Tryz.info75:(Tryz.prog.info? 75).map (fun i=>(i.zero,i.size,i.bytes))=some (some (.agg #[.int .i64 0,.string ByteArray.empty,.int .i64 0,.int .i64 0]),4,40):=by kernel_rfl
end Go.Proofs.YtpoghableadkcaaGreatDoor
end
section
/- The lexer as a function on lists of bytes: no program in sight. -/
namespace Go.Proofs.YtpoghableadkcaaGreatDoor

abbrev Bs:=List UInt8

/-- A blank. -/
def isBl (c:UInt8):Bool:=c == 32 || c == 9 || c == 10 || c == 13

/-- What is told: a mistake and its place,or an answer. -/
inductive Res (A:Type) where
 | bad (code at_:Nat)
 | ok (a:A)
deriving DecidableEq

/-- Over blanks and remarks;m: within a remark;i: the place of l's head. -/
def blank:Bool→Nat→Bs→Res Nat
 | m,i,c :: d :: r=>
  if m then (if c == 42 && d == 47 then blank false (i + 2) r else blank true (i + 1) (d :: r))
  else if c == 47 && d == 42 then blank true (i + 2) r
  else if isBl c then blank false (i + 1) (d :: r) else .ok i
 | m,i,[c]=>if m then .bad 21 (i + 1) else if isBl c then .ok (i + 1) else .ok i
 | m,i,[]=>if m then .bad 21 i else .ok i

/-- A word. -/
structure Tk where
 kind:Nat
 text:Bs
 num:Nat
 at_:Nat
deriving DecidableEq

def lod (c:UInt8):Bool:=ltr c.toNat || dig c.toNat
def isDig (c:UInt8):Bool:=dig c.toNat

/-- A number's value. -/
def val (v:Nat) (l:Bs):Nat:=l.foldl (fun v c=>10 * v + (c.toNat - 48)) v

/-- What stands behind a backslash. -/
def esc (c:UInt8):Option UInt8:=
 if c == 110 then some 10 else if c == 116 then some 9 else if c == 92 then some 92 else if c == 34 then some 34 else none

/-- Between quotes;i: the place of l's head;what is read so far. -/
def quo:Nat→Bs→Bs→Res (Bs × Nat)
 | i,acc,c :: d :: r=>
  if c == 34 then .ok (acc,i + 1)
  else if decide (c.toNat < 32) || decide (126 < c.toNat) then .bad 22 i
  else if c == 92 then (match esc d with | some x=>quo (i + 2) (acc ++ [x]) r | none=>.bad 22 i)
  else quo (i + 1) (acc ++ [c]) (d :: r)
 | i,acc,[c]=>
  if c == 34 then .ok (acc,i + 1)
  else if decide (c.toNat < 32) || decide (126 < c.toNat) then .bad 22 i
  else if c == 92 then .bad 22 i
  else .bad 21 (i + 1)
 | i,_,[]=>.bad 21 i

/-- The words of other bytes. -/
def sign (i:Nat):Bs→Res (Tk × Nat)
 | []=>.bad 20 i
 | [c]=>if isOne c.toNat then .ok (⟨4,[c],0,i⟩,i + 1) else .bad 20 i
 | c :: d :: _=>if twos.contains [c,d] then .ok (⟨4,[c,d],0,i⟩,i + 2) else if isOne c.toNat then .ok (⟨4,[c],0,i⟩,i + 1) else .bad 20 i

/-- The word that begins at place i,and where it ends. -/
def word (i:Nat) (l:Bs):Res (Tk × Nat):=
 match l with
 | []=>.bad 20 i
 | c :: r=>
  if ltr c.toNat then
   let n:=(l.takeWhile lod).length
   if 32 < n then .bad 22 i else .ok (⟨if names.contains (l.take n) then 4 else 1,l.take n,0,i⟩,i + n)
  else if isDig c then
   let n:=(l.takeWhile isDig).length
   if 10 < n || 2147483647 < val 0 (l.take n) || ((l.drop n).head?.any fun d=>ltr d.toNat) then .bad 22 i
   else .ok (⟨2,l.take n,val 0 (l.take n),i⟩,i + n)
  else if c == 34 then (match quo (i + 1) [] r with | .bad x y=>.bad x y | .ok (b,k)=>.ok (⟨3,b,0,i⟩,k))
  else sign i l

/-- The words of a text of which l is the rest from place i on. -/
def toks:Nat→Nat→Bs→Res (List Tk)
 | 0,_,_=>.ok []
 | f + 1,i,l=>
  match blank false i l with
  | .bad x y=>.bad x y
  | .ok k=>
   match l.drop (k - i) with
   | []=>.ok []
   | c :: r=>
    match word k (c :: r) with
    | .bad x y=>.bad x y
    | .ok (t,n)=>
     match toks f n ((c :: r).drop (n - k)) with
     | .bad x y=>.bad x y
     | .ok ts=>.ok (t :: ts)

def tokens (l:Bs):Res (List Tk):=toks (l.length + 1) 0 l

theorem blank_ge:∀ (l:Bs) (m:Bool) (i k:Nat),blank m i l=.ok k→i ≤ k∧k ≤ i + l.length
 | [],m,i,k,h=>by
  cases m <;> simp [blank] at h
  subst h;simp
 | [c],m,i,k,h=>by
  cases m <;> simp [blank] at h
  split at h <;> (simp at h;subst h;simp)
 | c :: d :: r,m,i,k,h=>by
  unfold blank at h
  split at h
  ·split at h
   ·have:=blank_ge r _ _ _ h;simp;omega
   ·have:=blank_ge (d :: r) _ _ _ h;simp at this ⊢;omega
  ·split at h
   ·have:=blank_ge r _ _ _ h;simp;omega
   ·split at h
    ·have:=blank_ge (d :: r) _ _ _ h;simp at this ⊢;omega
    ·injection h with h;subst h;simp

theorem quo_ge:∀ (l:Bs) (acc:Bs) (i:Nat) (b:Bs) (k:Nat),quo i acc l=.ok (b,k)→i < k∧k ≤ i + l.length
 | [],acc,i,b,k,h=>by simp [quo] at h
 | [c],acc,i,b,k,h=>by
  unfold quo at h
  split at h
  ·injection h with h;injection h with _ h;subst h;simp
  ·repeat (split at h;· cases h)
   cases h
 | c :: d :: r,acc,i,b,k,h=>by
  unfold quo at h
  split at h
  ·injection h with h;injection h with _ h;subst h;simp
  ·split at h
   ·cases h
   ·split at h
    ·split at h
     ·have:=quo_ge r _ _ _ _ h;simp;omega
     ·cases h
    ·have:=quo_ge (d :: r) _ _ _ _ h;simp at this ⊢;omega

theorem takeWhile_len (p:UInt8→Bool):∀ l:Bs,(l.takeWhile p).length ≤ l.length
 | []=>by simp
 | c :: r=>by
  rw [List.takeWhile_cons]
  split
  ·have:=takeWhile_len p r;simp;omega
  ·simp

theorem sign_ge {l:Bs} {i:Nat} {t:Tk} {n:Nat} (h:sign i l=.ok (t,n)):i < n∧n ≤ i + l.length:=by
 unfold sign at h
 split at h
 ·cases h
 ·split at h
  ·injection h with h;injection h with _ h;subst h;simp
  ·cases h
 ·split at h
  ·injection h with h;injection h with _ h;subst h;simp
  ·split at h
   ·injection h with h;injection h with _ h;subst h;simp
   ·cases h

theorem word_ge {l:Bs} {i:Nat} {t:Tk} {n:Nat} (h:word i l=.ok (t,n)):i < n∧n ≤ i + l.length:=by
 unfold word at h
 split at h
 ·cases h
 ·rename_i c r
  split at h
  ·rename_i hc
   have h1:=takeWhile_len lod (c :: r)
   have h2:0 < ((c :: r).takeWhile lod).length:=by rw [List.takeWhile_cons,if_pos (by unfold lod;rw [hc];rfl)];simp
   simp only at h
   split at h
   ·cases h
   ·injection h with h;injection h with _ h;subst h;omega
  ·split at h
   ·rename_i hc
    have h1:=takeWhile_len isDig (c :: r)
    have h2:0 < ((c :: r).takeWhile isDig).length:=by rw [List.takeWhile_cons,if_pos hc];simp
    simp only at h
    split at h
    ·cases h
    ·injection h with h;injection h with _ h;subst h;omega
   ·split at h
    ·split at h
     ·cases h
     ·rename_i b k hq
      injection h with h;injection h with _ h;subst h
      have:=quo_ge _ _ _ _ _ hq
      simp;omega
    ·exact sign_ge h

/-- Fuel enough is enough. -/
theorem toks_fuel:∀ (f g i:Nat) (l:Bs),l.length < f→l.length < g→toks f i l=toks g i l
 | 0,_,_,_,h,_=>by omega
 | _ + 1,0,_,_,_,h=>by omega
 | f + 1,g + 1,i,l,hf,hg=>by
  unfold toks
  split
  ·rfl
  ·rename_i k hk
   have h1:=blank_ge _ _ _ _ hk
   split
   ·rfl
   ·rename_i c r hd
    have h3:(c :: r).length=l.length - (k - i):=by rw [← hd,List.length_drop]
    split
    ·rfl
    ·rename_i t n hw
     have h2:=word_ge hw
     rw [toks_fuel f g n _ (by rw [List.length_drop];omega) (by rw [List.length_drop];omega)]

/-- The words from place i on. -/
def tk (i:Nat) (l:Bs):Res (List Tk):=toks (l.length + 1) i l
theorem tk_eq (i:Nat) (l:Bs):tk i l=match blank false i l with
  | .bad x y=>.bad x y
  | .ok k=>
   match l.drop (k - i) with
   | []=>.ok []
   | c :: r=>
    match word k (c :: r) with
    | .bad x y=>.bad x y
    | .ok (t,n)=>
     match tk n ((c :: r).drop (n - k)) with
     | .bad x y=>.bad x y
     | .ok ts=>.ok (t :: ts):=by
 unfold tk
 rw [toks]
 split
 ·rfl
 ·rename_i k hk
  have h1:=blank_ge _ _ _ _ hk
  split
  ·rfl
  ·rename_i c r hd
   have h3:(c :: r).length=l.length - (k - i):=by rw [← hd,List.length_drop]
   split
   ·rfl
   ·rename_i t n hw
    have h2:=word_ge hw
    rw [toks_fuel l.length _ n _ (by rw [List.length_drop];omega) (Nat.lt_succ_self _)]

theorem awake_tokens:(match tk 0 [112,114,111,99,116,121,112,101,32,80,49,40,41,32,123,32,113,33,33,120,32,47,42,32,97,32,42,47,32,125] with
  | .ok l=>l.map fun t=>(t.kind,t.text,t.at_)
  | .bad _ _=>[]) =
 [(4,[112,114,111,99,116,121,112,101],0),(1,[80,49],9),(4,[40],11),(4,[41],12),(4,[123],14),(1,[113],16),(4,[33,33],17),(1,[120],19),(4,[125],29)]:=by kernel_rfl
end Go.Proofs.YtpoghableadkcaaGreatDoor
end
section
/- The walk of sextantref02.blank. -/
namespace Go.Proofs.YtpoghableadkcaaGreatDoor
open Go.RowKit

/-- The rest of a text. -/
def rest (s:ByteArray) (i:Nat):Bs:=s.data.toList.drop i
theorem rest_cons {s:ByteArray} {i:Nat} (h:i < s.size):rest s i=s[i] :: rest s (i + 1):=by
 unfold rest
 rw [List.drop_eq_getElem_cons (by simpa using h)]
 rfl
theorem rest_end {s:ByteArray} {i:Nat} (h:s.size ≤ i):rest s i=[]:=by
 unfold rest
 rw [List.drop_eq_nil_iff]
 simpa using h
theorem u8i (c d:UInt8):((c.toNat:Int) == (d.toNat:Int))=(c == d):=by
 rw [Bool.eq_iff_iff];simp
 exact ⟨fun h=>UInt8.toNat_inj.1 (by omega),fun h=>by rw [h]⟩
theorem u8n (c d:UInt8):((c.toNat:Int) != (d.toNat:Int))=!(c == d):=by
 rw [← u8i];rfl

theorem blank_end {s:ByteArray} {i:Nat} (h:s.size ≤ i):blank false i (rest s i)=.ok i:=by rw [rest_end h];rfl
theorem blank_open {s:ByteArray} {i:Nat} (h:i + 1 < s.size) (h1:(s[i] == 47)=true) (h2:(s[i + 1] == 42)=true):
  blank false i (rest s i)=blank true (i + 2) (rest s (i + 2)):=by
 rw [rest_cons (by omega),rest_cons h,blank]
 simp [h1,h2]
theorem blank_bl {s:ByteArray} {i:Nat} (h:i < s.size) (h1:isBl s[i]=true):blank false i (rest s i)=blank false (i + 1) (rest s (i + 1)):=by
 rw [rest_cons h]
 have h3:(s[i] == 47)=false:=by
  cases hh:(s[i] == 47) with
  | false=>rfl
  | true=>rw [eq_of_beq hh] at h1;cases h1
 by_cases h2:i + 1 < s.size
 ·rw [rest_cons h2,blank];simp [h1,h3]
 ·rw [rest_end (i:=i + 1) (by omega),blank];simp [h1,blank]
theorem blank_stop {s:ByteArray} {i:Nat} (h:i < s.size) (h1:isBl s[i]=false) (h2:¬ ∃ h:i + 1 < s.size,s[i]=47∧s[i + 1]=42):blank false i (rest s i)=.ok i:=by
 rw [rest_cons h]
 by_cases h3:i + 1 < s.size
 ·rw [rest_cons h3,blank]
  have:(s[i] == 47 && s[i + 1] == 42)=false:=by
   cases hh:(s[i] == 47 && s[i + 1] == 42) with
   | false=>rfl
   | true=>simp at hh;exact absurd ⟨h3,hh⟩ h2
  simp [h1,this]
 ·rw [rest_end (i:=i + 1) (by omega),blank];simp [h1]
theorem blank_close {s:ByteArray} {i:Nat} (h:i + 1 < s.size) (h1:(s[i] == 42)=true) (h2:(s[i + 1] == 47)=true):
  blank true i (rest s i)=blank false (i + 2) (rest s (i + 2)):=by
 rw [rest_cons (by omega),rest_cons h,blank]
 simp [h1,h2]
theorem blank_in {s:ByteArray} {i:Nat} (h:i + 1 < s.size) (h1:(s[i] == 42 && s[i + 1] == 47)=false):
  blank true i (rest s i)=blank true (i + 1) (rest s (i + 1)):=by
 rw [rest_cons (i:=i) (by omega),rest_cons h,blank]
 simp [h1]
theorem blank_off {s:ByteArray} {i:Nat} (h:s.size ≤ i + 1) (h':i ≤ s.size):blank true i (rest s i)=.bad 21 s.size:=by
 by_cases h2:i < s.size
 ·rw [rest_cons h2,rest_end (i:=i + 1) (by omega),blank];simp;omega
 ·rw [rest_end (by omega),blank];simp;omega

/-- What blank answers. -/
def BlankPost (R:Res Nat) (w:World) (e:Ending) (w':World):Prop:=
 Below w.heap.size w w'∧match R with
 | .ok k=>e=.returned (.tuple #[.int .i64 k,mish 0 0])
 | .bad c a=>∃ j:Int,e=.returned (.tuple #[.int .i64 j,mish c a])

theorem out18 {w:World} {tmps:Array Value} {g:Nat} {a b:Value} (hH:Holds w g 26 [a,b]) (h5:tmps[5]?.getD undef=.pointer (some ⟨g,0,none⟩)):
  (results Tryz.f26 tmps).run Tryz.prog w=.ok (.tuple #[tmps.getD 4 undef,.agg #[a,b]]) w:=by
 have c0:=hH.cell 0
 have c1:=hH.cell 1
 simp at c0 c1
 simp [results,Tryz.results26,h5,go_sem,c0,c1]

set_option maxHeartbeats 1000000 in
set_option maxRecDepth 100000 in
theorem refBlank (s:ByteArray) (i:Nat) (hi:i ≤ s.size) (hs:s.size ≤ 65536) (w:World):
  Calls Tryz.prog 26 #[.string s,.int .i64 (i:Int)] w (BlankPost (blank false i (rest s i)) w):=by
 obtain ⟨R,hR⟩:∃ R,R=blank false i (rest s i):=⟨_,rfl⟩
 rw [← hR]
 have HR:=Lib.hid hR
 clear hR
 go_enter Tryz.func26,Tryz.ntmps26
 go_wp2
 go_loopw [1] (fun n wr=>∃ j:Nat,n=.int .i64 (j:Int)∧j ≤ s.size∧Hid (R=blank false j (rest s j))∧Holds wr w.heap.size 26 [.int .i64 0,.int .i64 0]∧Below w.heap.size w wr) (fun n _=>(s.size + 10 - intOf n).toNat)
 case atStart=>exact ⟨i,rfl,hi,HR,Holds.new w _ _,(Below.refl _ _).alloc (Nat.le_refl _) _⟩
 case round=>
  obtain ⟨j,rfl,hj,HJ,hH,hB⟩:=hrel
  have c0:=hH.cell 0
  have c1:=hH.cell 1
  have f0:=hH.free 0
  have f1:=hH.free 1
  simp at c0 c1
  by_cases hl:j < s.size
  ·by_cases ho:∃ h:j + 1 < s.size,s[j]=47∧s[j + 1]=42
   ·obtain ⟨h1,h2,h3⟩:=ho
    have e1:((s[j].toNat:Int) == 47)=true:=by rw [h2];rfl
    have e2:((s[j + 1].toNat:Int) == 42)=true:=by rw [h3];rfl
    go_wp2
    go_loopw [1] (fun n wr'=>∃ j':Nat,n=.int .i64 (j':Int)∧j' ≤ s.size∧j + 2 ≤ j'∧Hid (R=blank true j' (rest s j'))∧Holds wr' w.heap.size 26 [.int .i64 0,.int .i64 0]∧Below w.heap.size w wr') (fun n _=>(s.size + 10 - intOf n).toNat)
    case atStart=>exact ⟨j + 2,rfl,by omega,Nat.le_refl _,(by rw [HJ.out];exact blank_open h1 (by rw [h2];rfl) (by rw [h3];rfl)),hH,hB⟩
    case round=>
     clear c0 c1 f0 f1
     obtain ⟨j',rfl,hj',hjj,HJ',hH',hB'⟩:=hrel
     have c0:=hH'.cell 0
     have c1:=hH'.cell 1
     have f0:=hH'.free 0
     have f1:=hH'.free 1
     simp at c0 c1
     by_cases hm:j' + 1 < s.size
     ·have hm':j' < s.size:=by omega
      by_cases hc:((s[j'] == 42) && (s[j' + 1] == 47))=true
      ·rw [Bool.and_eq_true] at hc
       have e3:((s[j'].toNat:Int) == 42)=true:=(u8i _ 42).trans hc.1
       have e4:((s[j' + 1].toNat:Int) == 47)=true:=(u8i _ 47).trans hc.2
       have HC:=Lib.hid hc
       clear hc
       go_wp2
       go_roundw
       case rel=>exact ⟨j' + 2,rfl,by omega,(by rw [HJ'.out];exact blank_close hm HC.out.1 HC.out.2),hH',hB'⟩
       case measure=>simp [intOf];omega
      ·have hc':=eq_false_of_ne_true hc
       clear hc
       have HC:=Lib.hid hc'
       have hx:=hc'
       rw [← u8i _ 42,← u8i _ 47] at hx
       clear hc'
       by_cases h42:((s[j'].toNat:Int) == 42)=true
       ·have h47:((s[j' + 1].toNat:Int) == 47)=false:=by
         have h42':((s[j'].toNat:Int) == ((42:UInt8).toNat:Int))=true:=h42
         rw [h42'] at hx;simpa using hx
        clear hx
        go_wp2
        go_roundw
        case rel=>exact ⟨j' + 1,rfl,by omega,by omega,(by rw [HJ'.out];exact blank_in hm HC.out),hH',hB'⟩
        case measure=>simp [intOf];omega
       ·have h42':=eq_false_of_ne_true h42
        clear h42 hx
        go_wp2
        go_roundw
        case rel=>exact ⟨j' + 1,rfl,by omega,by omega,(by rw [HJ'.out];exact blank_in hm HC.out),hH',hB'⟩
        case measure=>simp [intOf];omega
     ·have hm':decide ((j':Int) + 1 < (s.size:Int))=false:=by simp;omega
      go_wp2_with (fail)
      refine (refBad 21 s.size _).mono ?_
      rintro e w2 ⟨rfl,hb2⟩
      clear c0 c1 f0 f1
      have hH2:=hH'.belowAll hb2
      have hB2:=hB'.trans (hb2.mono hB'.size)
      have c0:=hH2.cell 0
      have c1:=hH2.cell 1
      have f0:=hH2.free 0
      have f1:=hH2.free 1
      simp at c0 c1
      unfold mish
      go_wp2
      refine bodyPost_ret (out18 ((hH2.put 0 _).put 1 _) rfl) rfl ⟨?_,?_⟩
      ·exact (hB2.setCell (Nat.le_refl _) _).setCell (Nat.le_refl _) _
      ·rw [HJ'.out,blank_off (by omega) hj']
       exact ⟨j',rfl⟩
   ·have HO:=Lib.hid ho
    by_cases hb:isBl s[j]=true
    ·have HS:=Lib.hid (blank_bl hl hb)
     have hb':=hb
     have h47:((s[j].toNat:Int) == 47)=false:=by
      refine (u8i _ 47).trans ?_
      cases hh:(s[j] == 47) with
      | false=>rfl
      | true=>rw [eq_of_beq hh] at hb;cases hb
     clear hb ho
     unfold isBl at hb'
     rw [← u8i _ 32,← u8i _ 9,← u8i _ 10,← u8i _ 13] at hb'
     go_wp2
     all_goals first
      | (exact ⟨⟨j + 1,rfl,by omega,(by rw [HJ.out];exact HS.out),hH,hB⟩,by simp [intOf];omega⟩)
      | (simp_all;done)
    ·have hb':=eq_false_of_ne_true hb
     have HS:=Lib.hid (blank_stop hl hb' ho)
     unfold isBl at hb'
     rw [← u8i _ 32,← u8i _ 9,← u8i _ 10,← u8i _ 13] at hb'
     simp only [Bool.or_eq_false_iff] at hb'
     obtain ⟨⟨⟨g1,g2⟩,g3⟩,g4⟩:=hb'
     change ((s[j].toNat:Int) == 32)=false at g1
     change ((s[j].toNat:Int) == 9)=false at g2
     change ((s[j].toNat:Int) == 10)=false at g3
     change ((s[j].toNat:Int) == 13)=false at g4
     clear hb ho
     by_cases h47:((s[j].toNat:Int) == 47)=true
     ·have h47b:s[j]=47:=eq_of_beq ((u8i s[j] 47).symm.trans h47)
      by_cases hm:j + 1 < s.size
      ·have h42:((s[j + 1].toNat:Int) == 42)=false:=by
        cases hh:((s[j + 1].toNat:Int) == 42) with
        | false=>rfl
        | true=>exact absurd ⟨hm,h47b,eq_of_beq ((u8i s[j + 1] 42).symm.trans hh)⟩ HO.out
       go_wp2
       refine bodyPost_ret (out18 ((hH.put 0 _).put 1 _) rfl) rfl ⟨?_,?_⟩
       ·exact (hB.setCell (Nat.le_refl _) _).setCell (Nat.le_refl _) _
       ·rw [HJ.out,HS.out];rfl
      ·have hm':decide ((j:Int) + 1 < (s.size:Int))=false:=by simp;omega
       go_wp2
       refine bodyPost_ret (out18 ((hH.put 0 _).put 1 _) rfl) rfl ⟨?_,?_⟩
       ·exact (hB.setCell (Nat.le_refl _) _).setCell (Nat.le_refl _) _
       ·rw [HJ.out,HS.out];rfl
     ·have h47':=eq_false_of_ne_true h47
      clear h47
      go_wp2
      refine bodyPost_ret (out18 ((hH.put 0 _).put 1 _) rfl) rfl ⟨?_,?_⟩
      ·exact (hB.setCell (Nat.le_refl _) _).setCell (Nat.le_refl _) _
      ·rw [HJ.out,HS.out];rfl
  ·have hl':decide ((j:Int) < (s.size:Int))=false:=by simp;omega
   go_wp2
   refine bodyPost_ret (out18 ((hH.put 0 _).put 1 _) rfl) rfl ⟨?_,?_⟩
   ·exact (hB.setCell (Nat.le_refl _) _).setCell (Nat.le_refl _) _
   ·rw [HJ.out,blank_end (by omega)];rfl
end Go.Proofs.YtpoghableadkcaaGreatDoor
end
