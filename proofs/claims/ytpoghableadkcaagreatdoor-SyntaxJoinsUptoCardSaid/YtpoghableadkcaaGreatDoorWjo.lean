/- The walk of SyntaxJoins. -/
import Derived.Test.YtpoghableadkcaaGreatDoorJoi
import Derived.Test.YtpoghableadkcaaGreatDoorBd2
import Derived.Test.YtpoghableadkcaaGreatDoorSaU
import Derived.Test.YtpoghableadkcaaGreatDoorM23
import Derived.Laws.AppendOwnNone
import Derived.Deep.AppendLies
namespace Go.Proofs.YtpoghableadkcaaGreatDoor
open Go.RowKit
set_option linter.unusedVariables false
set_option linter.unusedSimpArgs false

theorem blank_bad0:∀ (l:Bs) (m:Bool) (i c a:Nat),blank m i l=.bad c a→0 < c
 | [],m,i,c,a,h=>by
  cases m <;> simp [blank] at h
  omega
 | [x],m,i,c,a,h=>by
  cases m <;> simp [blank] at h
  ·split at h <;> cases h
  ·omega
 | x :: y :: r,m,i,c,a,h=>by
  unfold blank at h
  split at h
  ·split at h
   ·exact blank_bad0 r _ _ _ _ h
   ·exact blank_bad0 (y :: r) _ _ _ _ h
  ·split at h
   ·exact blank_bad0 r _ _ _ _ h
   ·split at h
    ·exact blank_bad0 (y :: r) _ _ _ _ h
    ·cases h
theorem quo_bad0:∀ (l acc:Bs) (i c a:Nat),quo i acc l=.bad c a→0 < c
 | [],acc,i,c,a,h=>by
  simp [quo] at h
  omega
 | [x],acc,i,c,a,h=>by
  unfold quo at h
  repeat (split at h;· first | (cases h;done) | (injection h with h _;omega))
  injection h with h _;omega
 | x :: y :: r,acc,i,c,a,h=>by
  unfold quo at h
  split at h
  ·cases h
  ·split at h
   ·injection h with h _;omega
   ·split at h
    ·split at h
     ·exact quo_bad0 r _ _ _ _ h
     ·injection h with h _;omega
    ·exact quo_bad0 (y :: r) _ _ _ _ h
theorem sign_bad0 {l:Bs} {i c a:Nat} (h:sign i l=.bad c a):0 < c:=by
 unfold sign at h
 split at h
 ·injection h with h _;omega
 ·split at h
  ·cases h
  ·injection h with h _;omega
 ·split at h
  ·cases h
  ·split at h
   ·cases h
   ·injection h with h _;omega
theorem word_bad0 {l:Bs} {i c a:Nat} (h:word i l=.bad c a):0 < c:=by
 unfold word at h
 split at h
 ·injection h with h _;omega
 ·split at h
  ·simp only at h
   split at h
   ·injection h with h _;omega
   ·cases h
  ·split at h
   ·simp only at h
    split at h
    ·injection h with h _;omega
    ·cases h
   ·split at h
    ·split at h
     ·rename_i x y hq
      injection h with h1 _
      rw [← h1];exact quo_bad0 _ _ _ _ _ hq
     ·cases h
    ·exact sign_bad0 h
theorem toks_bad0:∀ (f i:Nat) (l:Bs) (c a:Nat),toks f i l=.bad c a→0 < c
 | 0,i,l,c,a,h=>by simp [toks] at h
 | f + 1,i,l,c,a,h=>by
  unfold toks at h
  split at h
  ·rename_i x y hb
   injection h with h1 _
   rw [← h1];exact blank_bad0 _ _ _ _ _ hb
  ·split at h
   ·cases h
   ·split at h
    ·rename_i x y hw
     injection h with h1 _
     rw [← h1];exact word_bad0 hw
    ·split at h
     ·rename_i x y hq
      injection h with h1 _
      rw [← h1];exact toks_bad0 f _ _ _ _ hq
     ·cases h
theorem tokens_bad0 (s:ByteArray) (c a:Nat) (h:tokensOf s=.bad c a):0 < c:=by
 unfold tokensOf at h
 split at h
 ·injection h with h _;omega
 ·exact toks_bad0 _ _ _ _ _ h
theorem units_len {E:Env} {f:Nat}:∀ (g i:Nat) (l:List Unt) (j:Nat),units E f g i=.ok l j→l.length ≤ g
 | 0,i,l,j,h=>by rw [units] at h;cases h
 | g + 1,i,l,j,h=>by
  rw [units] at h
  split at h
  ·injection h with h _;subst h;simp
  ·split at h
   ·have:=units_len g _ _ _ h;omega
   ·cases hu:unitP E f i with
    | out=>rw [hu] at h;cases h
    | bad c a=>rw [hu] at h;cases h
    | ok u k=>
     rw [hu] at h
     simp only [R.bd] at h
     cases hs:units E f g k with
     | out=>rw [hs] at h;cases h
     | bad c a=>rw [hs] at h;cases h
     | ok r m=>
      rw [hs] at h
      simp only at h
      injection h with h _
      have:=units_len g _ _ _ hs
      subst h
      simp;omega
theorem parseFu_all:∃ f g,(∀ s,parseFu f g s)∧g ≤ 65537:=by
 obtain ⟨M,hM⟩:∃ M,65536=M:=⟨_,rfl⟩
 refine ⟨16 * M + 17,M + 1,fun s L hL=>fu_units ?_ _ 0 (Nat.zero_le _) ?_,by omega⟩
 ·have:=(tokens_ok hL).2.1
  show 16 * L.length + 16 < 16 * M + 17
  omega
 ·have:=(tokens_ok hL).2.1
  show L.length < 0 + (M + 1)
  omega
/-- An answer of Parse,told flat. -/
theorem parseTop2 {f g:Nat} {s:ByteArray} {w:World} (hw:Wd w) (hf:parseFu f g s):Calls Tryz.prog 8 #[.string s] w fun e w'=>
  Below w.heap.size w w'∧∃ (a1:Option Addr) (n1 c1 c a:Nat),e=.returned (.tuple #[.slice a1 n1 c1,.agg #[.int .i64 c,.int .i64 a]]) ∧
   Hid ((0 < c∧parseRes f g s=.bad c a)∨(c=0∧a=0∧∃ x,parseRes f g s=.ok x∧x.length=n1∧x.length ≤ g∧UntsV (From w.heap.size) w' (.slice a1 n1 c1) x)):=by
 refine (parseTop hw hf).mono fun e w' h=>?_
 obtain ⟨hb,h⟩:=h
 refine ⟨hb,?_⟩
 cases hx:parseRes f g s with
 | bad c a=>
  rw [hx] at h
  obtain rfl:=h
  exact ⟨_,_,_,c,a,rfl,.inl ⟨parseRes_bad hf (tokens_bad0 s) hx,rfl⟩⟩
 | ok x=>
  rw [hx] at h
  obtain ⟨v,rfl,hv⟩:=h
  have hv2:=hv
  obtain ⟨fl,hr,_⟩:=hv2
  obtain ⟨a1,c1,rfl,_⟩:=hr.form
  obtain ⟨L,j,_,hu,_⟩:=parse_ok hx
  exact ⟨_,_,_,0,0,rfl,.inr ⟨rfl,rfl,x,rfl,rfl,units_len _ _ _ _ hu,hv⟩⟩
theorem jointxt_eq (a b:ByteArray):(a ++ ⟨#[10,59]⟩ ++ b:ByteArray)=joinTxt a b:=by
 apply ByteArray.ext
 apply Array.ext'
 simp [joinTxt,ByteArray.data_append]
section
variable {P:Program} {w:World} {ops:Array Oper} {rest:List Oper} {o:Oper} {a:Act} {Q:Exit→Act→World→Prop}
/-- A row is appended to an own one. -/
theorem wpList_append_row (hgd:o.guard=none) (s x:Operand) (t:TypeId)
  (ho:o.op=.call { callee:=.builtin .append,args:=#[s,x],argTypes:=#[t,t] })
  (base:Nat) (e:TypeId) (i:TypeInfo) (z:Value) (size bytes:Nat) (ht:P.underlying t=some (.slice e)) (hi:P.info? e=some i) (hz:i.zero=some z)
  (hsize:i.size=size) (hby:i.bytes=bytes) (hzs:z.cells.size=size) (hsz:0 < size)
  (v:Value) (n:Nat) (xs:List Value) (hs:a.eval s=v) (hown:w.ownsRow base e size v n xs)
  {R:Nat→Prop} (xv:Value) (m:Nat) (news:List Value) (hx:a.eval x=xv) (hr:RowL R w size xv m news) (h1:∀ u ∈ news,u.oneCell'=true)
  (h63:n + m ≤ maxLen) (hbytes:(n + m) * bytes ≤ 140737488355328) (hbase:base ≤ w.heap.size)
  (h:∀ v' w',w'.ownsRow base e size v' (n + m) (xs ++ news)→w.grownBy w' v.ownBlock→(v'.ownBlock=v.ownBlock∨v'.ownBlock=some w.heap.size)→wpList P ops Q rest (a.put o.dst v') w'):
  wpList P ops Q (o :: rest) a w:=by
 have hr2:=hr
 obtain ⟨ad,cap,rfl,hc1,hc2,hl,hn,h6⟩:=hr
 cases ad with
 | none=>
  obtain rfl:=hn rfl
  obtain rfl:m=0:=by omega
  have hz0:news=[]:=List.eq_nil_of_length_eq_zero (by simpa using hl)
  subst hz0
  refine wpList_append_own_none hgd s x t ho base e i size ht hi v n xs hs hown hx ?_
  exact h v w (by simpa using hown) (World.grownBy.refl _ _) (.inl rfl)
 | some ad=>
  refine wpList_append_own_at _ hgd s x t ho base e i z size bytes ht hi hz hsize hby hzs hsz v n xs hs hown ad m cap news hx hl ?_ h1 h63 hbytes hbase fun v' w' k1 k2 _ k4=>h v' w' k1 k2 k4
  intro j u hj
  by_cases hm:0 < m
  ·obtain ⟨ad',cap',he,hc,_⟩:=hr2.source hm
   injection he with he _ _
   injection he with he
   subst he
   exact hc j u hj
  ·have:news=[]:=List.eq_nil_of_length_eq_zero (by rw [hl,show m=0 by omega];simp)
   subst this
   simp at hj
end
theorem untsF_one {R:Nat→Prop} {w:World}:∀ (l:List Unt) {f:List Value},UntsF R w l f→∀ u ∈ f,u.oneCell'=true
 | [],f,h=>by
  obtain rfl:=h
  simp
 | a :: l,f,h=>by
  obtain ⟨c,r,rfl,h2,h3⟩:=h
  intro u hu
  rcases List.mem_append.1 hu with h | h
  ·exact List.all_eq_true.1 (oneUnt.one h2) u h
  ·exact untsF_one l h3 u h
theorem untInfo:(Tryz.prog.info? 54).map (fun i=>(i.zero.map fun z=>z.cells.size,i.size,i.bytes))=some (some 21,21,352):=by kernel_rfl
theorem keep_low {w w':World} {b:Option Nat} {B:Nat} (h:w.grownBy w' b) (hb:∀ g,b=some g→B ≤ g) (hB:B ≤ w.heap.size):Keep (fun k=>k < B) w w':=fun k hk hs=>h.block k hs fun e=>by have:=hb k e.symm;omega
set_option maxHeartbeats 1600000 in
set_option maxRecDepth 1000000 in
theorem lawJoins (a b:ByteArray) (hsa:a.size ≤ 140737488355328) (hsb:b.size ≤ 140737488355328) {w:World} (hw:Wd w):Calls Tryz.prog 3 #[.string a,.string b] w fun e w'=>e=.returned (.bool true)∧Below w.heap.size w w':=by
 obtain ⟨f,g,hf,hg⟩:=parseFu_all
 have HW:=Lib.hid hw
 have HC:=Lib.hid (awakeFn hw)
 have HF:=Lib.hid hf
 have HG:=Lib.hid hg
 clear hw hf hg
 go_enter Tryz.func3,Tryz.ntmps3
 go_wp2_with (fail)
 refine HC.out.mono ?_
 rintro e w1 ⟨rfl,hB1⟩
 have HB1:=Lib.hid hB1
 have HC:=Lib.hid (parseTop2 (HW.out.below hB1) (HF.out a))
 clear hB1
 go_wp2_with (fail)
 refine HC.out.mono ?_
 rintro e w2 ⟨hB2,a1,n1,k1,c1,p1,rfl,HR1⟩
 have hb2:=HB1.out.trans (hB2.mono HB1.out.size)
 have hb3:Below w.heap.size w (w2.alloc (.cells #[.int .i64 (c1:Int),.int .i64 (p1:Int)] 26)):=hb2.alloc hb2.size _
 have HB3:=Lib.hid hb3
 have HM1:=Lib.hid (Holds.new w2 26 #[.int .i64 (c1:Int),.int .i64 (p1:Int)])
 have hbx:Below w2.heap.size w2 (w2.alloc (.cells #[.int .i64 (c1:Int),.int .i64 (p1:Int)] 26)):=(Below.refl _ _).alloc (Nat.le_refl _) _
 have HBX:=Lib.hid hbx
 have HC:=Lib.hid (parseTop2 (HW.out.below hb3) (HF.out b))
 clear hB2 hb2 hb3 hbx HB1
 go_wp2_with (fail)
 refine HC.out.mono ?_
 rintro e w3 ⟨hB3,a2,n2,k2,c2,p2,rfl,HR2⟩
 have hb4:=HB3.out.trans (hB3.mono HB3.out.size)
 have hb5:Below w.heap.size w (w3.alloc (.cells #[.int .i64 (c2:Int),.int .i64 (p2:Int)] 26)):=hb4.alloc hb4.size _
 have HB5:=Lib.hid hb5
 have HM1':=Lib.hid ((HM1.out.belowAll hB3).alloc (.cells #[.int .i64 (c2:Int),.int .i64 (p2:Int)] 26))
 have HM2:=Lib.hid (Holds.new w3 26 #[.int .i64 (c2:Int),.int .i64 (p2:Int)])
 have hby:Below w3.heap.size w3 (w3.alloc (.cells #[.int .i64 (c2:Int),.int .i64 (p2:Int)] 26)):=(Below.refl _ _).alloc (Nat.le_refl _) _
 have hb23:Below w2.heap.size w2 w3:=HBX.out.trans (hB3.mono HBX.out.size)
 have HBY:=Lib.hid hby
 have HB23:=Lib.hid hb23
 clear hB3 hb4 hb5 hby hb23 HM1 HB3 HBX
 -- the third reading: fuel as the first two want it
 obtain ⟨g3,hg3⟩:∃ g3,parseFu f g3 (joinTxt a b)∧g3 ≤ 200000∧(∀ x y,parseRes f g a=.ok x→parseRes f g b=.ok y→a.size + b.size + 2 ≤ 65536→∃ l,parseRes f g3 (joinTxt a b)=.ok l∧l.map erU=(x ++ y).map erU):=by
  by_cases h:(∃ x,parseRes f g a=.ok x)∧(∃ y,parseRes f g b=.ok y)∧a.size + b.size + 2 ≤ 65536
  ·obtain ⟨⟨x,hx⟩,⟨y,hy⟩,hs⟩:=h
   obtain ⟨l,hl,he⟩:=joins hx hy hs
   refine ⟨g + (g + 2),parseFu_of (by rw [hl];simp),by have:=HG.out;omega,fun x' y' hx' hy' _=>?_⟩
   rw [hx] at hx'
   rw [hy] at hy'
   injection hx' with hx'
   injection hy' with hy'
   subst hx' hy'
   exact ⟨l,hl,he⟩
  ·exact ⟨g,HF.out _,by have:=HG.out;omega,fun x y hx hy hs=>absurd ⟨⟨x,hx⟩,⟨y,hy⟩,hs⟩ h⟩
 have HJ:=Lib.hid hg3.2.2
 have HC:=Lib.hid (parseTop2 (HW.out.below HB5.out) hg3.1)
 clear hg3
 go_wp2_with (fail)
 rw [jointxt_eq]
 refine HC.out.mono ?_
 rintro e w4 ⟨hB4,a3,n3,k3,c3,p3,rfl,HR3⟩
 clear HC
 go_upto_region 7 with (fail)
 obtain ⟨w5,hw5⟩:∃ W,W=w4.alloc (.cells #[.int .i64 (c3:Int),.int .i64 (p3:Int)] 26):=⟨_,rfl⟩
 have hb45:Below w4.heap.size w4 w5:=by rw [hw5];exact (Below.refl _ _).alloc (Nat.le_refl _) _
 have hb35:Below w3.heap.size w3 w5:=HBY.out.trans ((hB4.trans (hb45.mono hB4.size)).mono HBY.out.size)
 have hb25:Below w2.heap.size w2 w5:=HB23.out.trans (hb35.mono HB23.out.size)
 have HB:=Lib.hid (HB5.out.trans ((hB4.trans (hb45.mono hB4.size)).mono HB5.out.size))
 have e1:w5.cell? ⟨w2.heap.size,0,none⟩=some (.int .i64 (c1:Int)):=(HM1'.out.belowAll (hB4.trans (hb45.mono hB4.size))).cell 0
 have e2:w5.cell? ⟨w3.heap.size,0,none⟩=some (.int .i64 (c2:Int)):=(HM2.out.belowAll (hB4.trans (hb45.mono hB4.size))).cell 0
 have e3:w5.cell? ⟨w4.heap.size,0,none⟩=some (.int .i64 (c3:Int)):=by rw [hw5];exact (Holds.new w4 26 #[.int .i64 (c3:Int),.int .i64 (p3:Int)]).cell 0
 have HB25:=Lib.hid hb25
 have HB35:=Lib.hid hb35
 have HB45:=Lib.hid hb45
 rw [← hw5]
 clear hw5 hb25 hb35 hb45 hB4 HM1' HM2 HB5 HB23 HBY
 have hwr1:IntKind.i64.wrap ((a.size:Int) + (b.size:Int))=(a.size:Int) + (b.size:Int):=by rw [IntKind.wrap_i64];omega
 have hwr2:IntKind.i64.wrap ((a.size:Int) + (b.size:Int) + 2)=(a.size:Int) + (b.size:Int) + 2:=by rw [IntKind.wrap_i64];omega
 by_cases h1:c1=0
 ·have d1:((c1:Int) != 0)=false:=by simp;omega
  by_cases h2:c2=0
  ·have d2:((c2:Int) != 0)=false:=by simp;omega
   by_cases hs:a.size + b.size + 2 ≤ 65536
   ·have d3:decide ((65536:Int) < (a.size:Int) + (b.size:Int) + 2)=false:=decide_eq_false (by omega)
    obtain ⟨x,hx,hxn,hxg,hxv⟩:∃ x,parseRes f g a=.ok x∧x.length=n1∧x.length ≤ g∧UntsV (fun k=>k < w5.heap.size) w5 (.slice a1 n1 k1) x:=by
     rcases HR1.out with ⟨h,_⟩ | ⟨_,_,x,k1,k2,k3,k4⟩
     ·omega
     ·exact ⟨x,k1,k2,k3,untsV_mono (untsV_mono (untsV_up k4 (Keep.below HB25.out)) Wide.in_) (fun k hk _=>hk.2)⟩
    obtain ⟨y,hy,hyn,hyg,hyv⟩:∃ y,parseRes f g b=.ok y∧y.length=n2∧y.length ≤ g∧UntsV (fun k=>k < w5.heap.size) w5 (.slice a2 n2 k2) y:=by
     rcases HR2.out with ⟨h,_⟩ | ⟨_,_,x,k1,k2,k3,k4⟩
     ·omega
     ·exact ⟨x,k1,k2,k3,untsV_mono (untsV_mono (untsV_up k4 (Keep.below HB35.out)) Wide.in_) (fun k hk _=>hk.2)⟩
    obtain ⟨l,hl,he⟩:=HJ.out x y hx hy hs
    obtain ⟨h3,hzv⟩:c3=0∧UntsV (fun k=>k < w5.heap.size) w5 (.slice a3 n3 k3) l:=by
     rcases HR3.out with ⟨h,k⟩ | ⟨h0,_,x,k1,k2,k3,k4⟩
     ·rw [hl] at k;cases k
     ·rw [hl] at k1
      injection k1 with k1
      subst k1
      exact ⟨h0,untsV_mono (untsV_mono (untsV_up k4 (Keep.below HB45.out)) Wide.in_) (fun k hk _=>hk.2)⟩
    subst h1 h2 h3
    have hg:=HG.out
    have hxl:n1 ≤ 65537:=by omega
    have hyl:n2 ≤ 65537:=by omega
    obtain ⟨fx,rx,ex⟩:=hxv
    obtain ⟨fy,ry,ey⟩:=hyv
    rw [hxn] at rx
    rw [hyn] at ry
    have HX1:=Lib.hid (untsF_one x ex)
    have HY1:=Lib.hid (untsF_one y ey)
    have HRX:=Lib.hid rx
    have HRY:=Lib.hid ry
    have HEX:=Lib.hid ex
    have HEY:=Lib.hid ey
    have HZV:=Lib.hid hzv
    have HE:=Lib.hid he
    have HXN:=Lib.hid hxn
    have HYN:=Lib.hid hyn
    obtain ⟨i0,z0,hi0,hz0,hz1,hz2,hz3⟩:=info_of untInfo
    obtain ⟨B,hB⟩:∃ B,w5.heap.size=B:=⟨_,rfl⟩
    have HBB:=Lib.hid hB
    clear rx ry ex ey hzv he hxn hyn hg HR1 HR2 HR3 HJ hB HF HG hx hy hl hxg hyg
    go_wp2_with (at_builtin;refine wpList_append_row rfl (.tmp 52) (.tmp 53) _ rfl w5.heap.size 54 i0 z0 21 352 Tryz.underlying23 hi0 hz0 hz1 hz2 hz3 (by omega) (.slice none 0 0) 0 [] rfl (World.ownsRow_nil _ _ _ _) _ n1 fx rfl HRX.out HX1.out (by unfold maxLen;omega) (by omega) (Nat.le_refl _) ?_)
    intro v6 w6 hown6 hgr6 hat6
    have hk6:Keep (fun k=>k < w5.heap.size) w5 w6:=keep_low hgr6 (fun g e=>by cases e) (Nat.le_refl _)
    have hRY:=HRY.out.up hk6
    have hEX:=UntsF.up hk6 x HEX.out
    have hEY:=UntsF.up hk6 y HEY.out
    have hZV:=untsV_up HZV.out hk6
    have e3:w6.cell? ⟨w4.heap.size,0,none⟩=some (.int .i64 0):=(hgr6.cell_far ⟨w4.heap.size,0,none⟩ (World.block_lt_of_cell? _ _ e3) (fun e=>by cases e)).trans e3
    have hB6:Below w.heap.size w w6:=HB.out.trans ⟨hgr6.os,hgr6.tape,hgr6.output,hgr6.size,fun k hk=>hgr6.block k (Nat.lt_of_lt_of_le hk HB.out.size) (fun e=>by cases e)⟩
    have hge6:∀ g,v6.ownBlock=some g→w5.heap.size ≤ g:=fun g e=>owns_ge hown6 g e
    have HRY:=Lib.hid hRY
    have HOWN:=Lib.hid hown6
    have HEX:=Lib.hid hEX
    have HEY:=Lib.hid hEY
    have HZV:=Lib.hid hZV
    have HB6:=Lib.hid hB6
    have HGE:=Lib.hid hge6
    have HSZ:=Lib.hid hgr6.size
    clear hk6 hRY hEX hEY hZV hB6 hge6 hgr6 hown6 hat6 HRX HX1
    go_wp2_with (at_builtin;refine wpList_append_row rfl (.tmp 55) (.tmp 56) _ rfl w5.heap.size 54 i0 z0 21 352 Tryz.underlying23 hi0 hz0 hz1 hz2 hz3 (by omega) v6 n1 fx rfl HOWN.out _ n2 fy rfl HRY.out HY1.out (by unfold maxLen;omega) (by omega) HSZ.out ?_)
    intro v7 w7 hown7 hgr7 hat7
    have hk7:Keep (fun k=>k < w5.heap.size) w6 w7:=keep_low hgr7 HGE.out HSZ.out
    have hEX:=UntsF.up hk7 x HEX.out
    have hEY:=UntsF.up hk7 y HEY.out
    have hZV:=untsV_up HZV.out hk7
    have hlt4:w4.heap.size < w5.heap.size:=by have:=World.block_lt_of_cell? w5 _ ‹w5.cell? ⟨w4.heap.size,0,none⟩=some (.int .i64 0)›;exact this
    have e3:w7.cell? ⟨w4.heap.size,0,none⟩=some (.int .i64 0):=(hgr7.cell_far ⟨w4.heap.size,0,none⟩ (World.block_lt_of_cell? _ _ e3) (fun e=>by have:=HGE.out _ e.symm;simp at this;omega)).trans e3
    have hB7:Below w.heap.size w w7:=HB6.out.trans ⟨hgr7.os,hgr7.tape,hgr7.output,hgr7.size,fun k hk=>hgr7.block k (Nat.lt_of_lt_of_le hk HB6.out.size) (fun e=>by have:=HGE.out _ e.symm;have:=HB.out.size;omega)⟩
    have hrow:RowL (fun _=>True) w7 21 v7 (x ++ y).length (fx ++ fy):=by
     have:=RowL.of_owns (P:=fun _=>True) hown7 (fun _ _=>trivial)
     rwa [List.length_append,HXN.out,HYN.out]
    have hT:Wide (fun k=>k < w5.heap.size) (fun _=>True) w7:=fun _ _ _=>trivial
    have hV7:UntsV (fun _=>True) w7 v7 (x ++ y):=⟨_,hrow,UntsF.append (UntsF.mono hT x hEX) (UntsF.mono hT y hEY)⟩
    have HC:=Lib.hid (sameFn HE.out.symm (untsV_mono hZV hT) hV7)
    have HB7:=Lib.hid hB7
    obtain ⟨va,vc,rfl,_⟩:=hrow.form
    obtain ⟨q,hq⟩:∃ q,(x ++ y).length=q:=⟨_,rfl⟩
    rw [hq] at HC ⊢
    clear hq
    clear hk7 hEX hEY hZV hB7 hgr7 hown7 hat7 hrow hT hV7 hlt4
    go_wp2_with (fail)
    refine HC.out.mono ?_
    rintro e w8 ⟨rfl,hB8⟩
    have HB8:=Lib.hid (HB7.out.trans (hB8.mono HB7.out.size))
    clear hB8 HC
    go_wp2
    go_ret
    exact ⟨rfl,HB8.out⟩
   ·have d3:decide ((65536:Int) < (a.size:Int) + (b.size:Int) + 2)=true:=decide_eq_true (by omega)
    clear hs
    go_wp2
    go_ret
    exact ⟨rfl,HB.out⟩
  ·have d2:((c2:Int) != 0)=true:=by simp;omega
   clear h2
   go_wp2
   go_ret
   exact ⟨rfl,HB.out⟩
 ·have d1:((c1:Int) != 0)=true:=by simp;omega
  clear h1
  go_wp2
  go_ret
  exact ⟨rfl,HB.out⟩
end Go.Proofs.YtpoghableadkcaaGreatDoor
