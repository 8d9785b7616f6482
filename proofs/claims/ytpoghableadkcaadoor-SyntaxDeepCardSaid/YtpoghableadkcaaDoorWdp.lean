/- The walk of SyntaxDeep. -/
import Derived.Test.YtpoghableadkcaaDoorM23
import Derived.Test.YtpoghableadkcaaDoorEvd
import Derived.Deep.DeepCutAuto
namespace Go.Proofs.YtpoghableadkcaaDoor
open Go.RowKit
set_option linter.unusedVariables false
set_option linter.unusedSimpArgs false

theorem deepOk_cases {A:Type} {k:Nat} {r:Res A} (h:deepOk k r=true):(k < 60∧∃ a,r=.ok a)∨(60 ≤ k∧r=.bad 3 0):=by
 cases r with
 | ok a=>exact .inl ⟨by simpa [deepOk] using h,a,rfl⟩
 | bad c a=>
  simp only [deepOk,Bool.and_eq_true,decide_eq_true_eq,beq_iff_eq] at h
  exact .inr ⟨h.1.1,by rw [h.1.2,h.2]⟩
theorem parseDeep {k:Nat} {w:World} (hw:Wd w) (hk:k < 120):Calls Tryd.prog 5 #[.string (dpB k)] w fun e w'=>
  Below w.heap.size w w'∧∃ (a0:Option Addr) (n0 c0 c:Nat),e=.returned (.tuple #[.slice a0 n0 c0,.agg #[.int .i64 c,.int .i64 0]])∧Hid ((k < 60∧c=0)∨(60 ≤ k∧c=3)):=by
 have hd:=deepOk_cases (dpB_at hk)
 have hne:parseRes 500 4 (dpB k) ≠ .bad 0 0:=by rcases hd with ⟨_,x,h⟩ | ⟨_,h⟩ <;> rw [h] <;> simp
 refine (parseTop hw (parseFu_of hne)).mono fun e w' h=>?_
 obtain ⟨hb,h⟩:=h
 refine ⟨hb,?_⟩
 rcases hd with ⟨hk,x,hr⟩ | ⟨hk,hr⟩
 ·rw [hr] at h
  obtain ⟨v,rfl,f,hv,_⟩:=h
  obtain ⟨a,cap,rfl,_⟩:=hv.form
  exact ⟨_,_,_,0,rfl,.inl ⟨hk,rfl⟩⟩
 ·rw [hr] at h
  exact ⟨none,0,0,3,h,.inr ⟨hk,rfl⟩⟩
theorem exprDeep {k:Nat} {w:World} (hw:Wd w) (hk:k < 120):Calls Tryd.prog 6 #[.string (dpE k)] w fun e w'=>
  Below w.heap.size w w'∧∃ (kd n:Int) (nm lb:ByteArray) (a1:Option Addr) (n1 c1:Nat) (a2:Option Addr) (n2 c2:Nat) (a3:Option Addr) (n3 c3:Nat) (a4:Option Addr) (n4 c4:Nat) (a5:Option Addr) (n5 c5:Nat) (c:Nat),
   e=.returned (.tuple #[.agg #[.int .i64 kd,.int .i64 n,.string nm,.string lb,.slice a1 n1 c1,.slice a2 n2 c2,.slice a3 n3 c3,.slice a4 n4 c4,.slice a5 n5 c5],.agg #[.int .i64 c,.int .i64 0]])∧Hid ((k < 60∧c=0)∨(60 ≤ k∧c=3)):=by
 have hd:=deepOk_cases (dpE_at hk)
 have hne:exprRes 200 (dpE k) ≠ .bad 0 0:=by rcases hd with ⟨_,x,h⟩ | ⟨_,h⟩ <;> rw [h] <;> simp
 refine (exprTop hw (exprFu_of hne)).mono fun e w' h=>?_
 obtain ⟨hb,h⟩:=h
 refine ⟨hb,?_⟩
 rcases hd with ⟨hk,x,hr⟩ | ⟨hk,hr⟩
 ·rw [hr] at h
  obtain ⟨c,rfl,vn,vi,vh,vk,va,rfl,hv⟩:=h
  obtain ⟨xa1,xn1,xc1,xa2,xn2,xc2,xa3,xn3,xc3,xa4,xn4,xc4,xa5,xn5,xc5,rfl,rfl,rfl,rfl,rfl⟩:=hv.forms
  exact ⟨_,_,_,_,_,_,_,_,_,_,_,_,_,_,_,_,_,_,_,0,rfl,.inl ⟨hk,rfl⟩⟩
 ·rw [hr] at h
  exact ⟨_,_,_,_,_,_,_,_,_,_,_,_,_,_,_,_,_,_,_,3,h,.inr ⟨hk,rfl⟩⟩
theorem rep_len (l:Bs):∀ n,(rep n l).length=n * l.length
 | 0=>by simp [rep]
 | n + 1=>by rw [rep,List.length_append,rep_len l n,Nat.succ_mul]
theorem rep_add (n:Nat) (l:Bs):(⟨(rep n l).toArray⟩ ++ ⟨l.toArray⟩:ByteArray)=⟨(rep (n + 1) l).toArray⟩:=by
 apply ByteArray.ext
 apply Array.ext'
 simp [rep,ByteArray.data_append]
theorem rep_sub (n:Nat) (h:1 ≤ n) (l:Bs):(⟨(rep (n - 1) l).toArray⟩ ++ ⟨l.toArray⟩:ByteArray)=⟨(rep (n + 1 - 1) l).toArray⟩:=by
 obtain ⟨q,rfl⟩:∃ q,n=q + 1:=⟨n - 1,by omega⟩
 exact rep_add q l
theorem dpE_eq (n:Nat):(⟨(rep n [33,32]).toArray⟩ ++ ⟨#[120]⟩:ByteArray)=dpE n:=by
 apply ByteArray.ext
 apply Array.ext'
 simp [dpE,ByteArray.data_append]
theorem dpB_eq (n:Nat):(⟨#[105,110,105,116,32,123,32]⟩ ++ ⟨(rep n [123,32]).toArray⟩ ++ ⟨#[115,107,105,112]⟩ ++ ⟨(rep n [32,125]).toArray⟩ ++ ⟨#[32,125]⟩:ByteArray)=dpB n:=by
 apply ByteArray.ext
 apply Array.ext'
 simp [dpB,ByteArray.data_append]
set_option maxHeartbeats 1600000 in
set_option maxRecDepth 1000000 in
theorem lawDeepB (x:Int) (hx:-9223372036854775808 ≤ x∧x ≤ 9223372036854775807) {w:World} (hw:Wd w):Calls Tryd.prog 3 #[.int .i64 x,.bool true] w fun e w'=>e=.returned (.bool true)∧Below w.heap.size w w':=by
 have HW:=Lib.hid hw
 have HC:=Lib.hid (awakeFn hw)
 clear hw
 go_enter Tryd.func3,Tryd.ntmps3
 go_wp2_with (fail)
 refine HC.out.mono ?_
 rintro e w1 ⟨rfl,hB1⟩
 have HB1:=Lib.hid hB1
 clear hB1 HC
 go_upto_if 17 with (fail)
 go_cut [0] (fun s0 wx=>∃ A:Nat,s0=.int .i64 (A:Int)∧A < 9223372036854775808∧wx=w1)
 case first=>
  by_cases h0:x < 0
  ·have d0:decide (x < 0)=true:=decide_eq_true h0
   have e1:IntKind.i64.wrap (x + 1)=x + 1:=by rw [IntKind.wrap_i64];omega
   have e2:IntKind.i64.wrap (-(x + 1))=-(x + 1):=by rw [IntKind.wrap_i64];omega
   go_wp2_with (fail)
   go_meet
   case rel=>exact ⟨(-(x + 1)).toNat,by rw [Int.toNat_of_nonneg (by omega)],by omega,rfl⟩
  ·have d0:decide (x < 0)=false:=decide_eq_false h0
   go_wp2_with (fail)
   go_meet
   case rel=>exact ⟨x.toNat,by rw [Int.toNat_of_nonneg (by omega)],by omega,rfl⟩
 case rest=>
  obtain ⟨A,rfl,hA,rfl⟩:=hcut
  obtain ⟨k,hk⟩:∃ k,A % 120=k:=⟨_,rfl⟩
  have hkA:((A:Int) % 120)=(k:Int):=by omega
  have hk120:k < 120:=by omega
  have hw1:IntKind.i64.wrap ((A:Int) % 120 + 1)=(k:Int) + 1:=by rw [IntKind.wrap_i64];omega
  clear hk
  go_upto_region 7 with (fail)
  first | rw [hw1] | skip
  clear hw1 hkA hA
  go_wp2_with (fail)
  go_loopw [6,7,8] (fun u v y wx=>∃ m:Nat,y=.int .i64 (m:Int)∧u=.string ⟨(rep (m - 1) [123,32]).toArray⟩∧v=.string ⟨(rep (m - 1) [32,125]).toArray⟩∧1 ≤ m∧m ≤ k + 1∧wx=wc) (fun _ _ y _=>(k + 10 - intOf y).toNat)
  case atStart=>exact ⟨1,rfl,rfl,rfl,Nat.le_refl _,by omega,rfl⟩
  case round=>
   obtain ⟨m,rfl,rfl,rfl,hm1,hm,rfl⟩:=hrel
   have hr1:(rep (m - 1) [123,32]).length ≤ 240:=by rw [rep_len];simp;omega
   have hr2:(rep (m - 1) [32,125]).length ≤ 240:=by rw [rep_len];simp;omega
   by_cases hl:m < k + 1
   ·have d1:decide ((m:Int) < (k:Int) + 1)=true:=decide_eq_true (by omega)
    have w1:IntKind.i64.wrap ((m:Int) + 1)=((m + 1:Nat):Int):=by rw [IntKind.wrap_i64];omega
    go_wp2_with (fail)
    refine ⟨⟨m + 1,rfl,?_,?_,by omega,by omega,trivial⟩,?_⟩
    ·rw [← rep_sub m hm1]
    ·rw [← rep_sub m hm1]
    ·simp [intOf];omega
   ·obtain rfl:m=k + 1:=by omega
    have d1:decide (((k + 1:Nat):Int) < (k:Int) + 1)=false:=decide_eq_false (by omega)
    simp only [Nat.add_sub_cancel] at hr1 hr2 ⊢
    clear hl hm hm1
    have HC:=Lib.hid (parseDeep (HW.out.below HB1.out) hk120)
    go_wp2_with (fail)
    rw [dpB_eq]
    refine HC.out.mono ?_
    rintro e w3 ⟨hB3,a0,n0,c0,c,rfl,HR⟩
    have HB3:=Lib.hid (HB1.out.trans (hB3.mono HB1.out.size))
    clear hB3 HC
    rcases HR.out with ⟨hq,rfl⟩ | ⟨hq,rfl⟩
    ·have d2:decide (((k + 1:Nat):Int) ≤ 60)=true:=decide_eq_true (by omega)
     have d3:decide ((k:Int) + 1 ≤ 60)=true:=decide_eq_true (by omega)
     clear HR
     go_wp2_with (fail)
     go_ret
     exact ⟨rfl,(HB3.out.alloc HB3.out.size _)⟩
    ·have d2:decide (((k + 1:Nat):Int) ≤ 60)=false:=decide_eq_false (by omega)
     have d3:decide ((k:Int) + 1 ≤ 60)=false:=decide_eq_false (by omega)
     clear HR
     go_wp2_with (fail)
     go_ret
     exact ⟨rfl,(HB3.out.alloc HB3.out.size _)⟩
set_option maxHeartbeats 1600000 in
set_option maxRecDepth 1000000 in
theorem lawDeepE (x:Int) (hx:-9223372036854775808 ≤ x∧x ≤ 9223372036854775807) {w:World} (hw:Wd w):Calls Tryd.prog 3 #[.int .i64 x,.bool false] w fun e w'=>e=.returned (.bool true)∧Below w.heap.size w w':=by
 have HW:=Lib.hid hw
 have HC:=Lib.hid (awakeFn hw)
 clear hw
 go_enter Tryd.func3,Tryd.ntmps3
 go_wp2_with (fail)
 refine HC.out.mono ?_
 rintro e w1 ⟨rfl,hB1⟩
 have HB1:=Lib.hid hB1
 clear hB1 HC
 go_upto_if 17 with (fail)
 go_cut [0] (fun s0 wx=>∃ A:Nat,s0=.int .i64 (A:Int)∧A < 9223372036854775808∧wx=w1)
 case first=>
  by_cases h0:x < 0
  ·have d0:decide (x < 0)=true:=decide_eq_true h0
   have e1:IntKind.i64.wrap (x + 1)=x + 1:=by rw [IntKind.wrap_i64];omega
   have e2:IntKind.i64.wrap (-(x + 1))=-(x + 1):=by rw [IntKind.wrap_i64];omega
   go_wp2_with (fail)
   go_meet
   case rel=>exact ⟨(-(x + 1)).toNat,by rw [Int.toNat_of_nonneg (by omega)],by omega,rfl⟩
  ·have d0:decide (x < 0)=false:=decide_eq_false h0
   go_wp2_with (fail)
   go_meet
   case rel=>exact ⟨x.toNat,by rw [Int.toNat_of_nonneg (by omega)],by omega,rfl⟩
 case rest=>
  obtain ⟨A,rfl,hA,rfl⟩:=hcut
  obtain ⟨k,hk⟩:∃ k,A % 120=k:=⟨_,rfl⟩
  have hkA:((A:Int) % 120)=(k:Int):=by omega
  have hk120:k < 120:=by omega
  have hw1:IntKind.i64.wrap ((A:Int) % 120 + 1)=(k:Int) + 1:=by rw [IntKind.wrap_i64];omega
  clear hk
  go_upto_region 7 with (fail)
  first | rw [hw1] | skip
  clear hw1 hkA hA
  go_wp2_with (fail)
  go_loopw [6,7,8] (fun u v y wx=>∃ m:Nat,y=.int .i64 (m:Int)∧u=.string ⟨(rep (m - 1) [33,32]).toArray⟩∧v=.string ⟨#[]⟩∧1 ≤ m∧m ≤ k + 1∧wx=wc) (fun _ _ y _=>(k + 10 - intOf y).toNat)
  case atStart=>exact ⟨1,rfl,rfl,rfl,Nat.le_refl _,by omega,rfl⟩
  case round=>
   obtain ⟨m,rfl,rfl,rfl,hm1,hm,rfl⟩:=hrel
   have hr1:(rep (m - 1) [33,32]).length ≤ 240:=by rw [rep_len];simp;omega
   by_cases hl:m < k + 1
   ·have d1:decide ((m:Int) < (k:Int) + 1)=true:=decide_eq_true (by omega)
    have w1:IntKind.i64.wrap ((m:Int) + 1)=((m + 1:Nat):Int):=by rw [IntKind.wrap_i64];omega
    go_wp2_with (fail)
    refine ⟨⟨m + 1,rfl,?_,?_,by omega,by omega,trivial⟩,?_⟩
    ·rw [← rep_sub m hm1]
    ·rfl
    ·simp [intOf];omega
   ·obtain rfl:m=k + 1:=by omega
    have d1:decide (((k + 1:Nat):Int) < (k:Int) + 1)=false:=decide_eq_false (by omega)
    simp only [Nat.add_sub_cancel] at hr1 ⊢
    clear hl hm hm1
    have HC:=Lib.hid (exprDeep (HW.out.below HB1.out) hk120)
    go_wp2_with (fail)
    rw [dpE_eq]
    refine HC.out.mono ?_
    rintro e w3 ⟨hB3,kd,nn,nm,lb,a1,n1,c1,a2,n2,c2,a3,n3,c3,a4,n4,c4,a5,n5,c5,c,rfl,HR⟩
    have HB3:=Lib.hid (HB1.out.trans (hB3.mono HB1.out.size))
    clear hB3 HC
    rcases HR.out with ⟨hq,rfl⟩ | ⟨hq,rfl⟩
    ·have d2:decide (((k + 1:Nat):Int) ≤ 60)=true:=decide_eq_true (by omega)
     have d3:decide ((k:Int) + 1 ≤ 60)=true:=decide_eq_true (by omega)
     clear HR
     go_wp2_with (fail)
     go_ret
     exact ⟨rfl,(HB3.out.alloc HB3.out.size _).alloc (by have:=HB3.out.size;simp;omega) _⟩
    ·have d2:decide (((k + 1:Nat):Int) ≤ 60)=false:=decide_eq_false (by omega)
     have d3:decide ((k:Int) + 1 ≤ 60)=false:=decide_eq_false (by omega)
     clear HR
     go_wp2_with (fail)
     go_ret
     exact ⟨rfl,(HB3.out.alloc HB3.out.size _).alloc (by have:=HB3.out.size;simp;omega) _⟩
theorem lawDeep (x:Int) (b:Bool) (hx:-9223372036854775808 ≤ x∧x ≤ 9223372036854775807) {w:World} (hw:Wd w):Calls Tryd.prog 3 #[.int .i64 x,.bool b] w fun e w'=>e=.returned (.bool true)∧Below w.heap.size w w':=by
 cases b with
 | true=>exact lawDeepB x hx hw
 | false=>exact lawDeepE x hx hw
end Go.Proofs.YtpoghableadkcaaDoor
