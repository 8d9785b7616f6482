/- LWord, LWordD, LWordS, LTok, LLaw, joined. -/
import Derived.Test.YtpoghableadkcaaGreatDoorM03
import Derived.Test.YtpoghableadkcaaGreatDoorM02
section
/- The walk of (*lex.scanner).word where a name begins. -/
namespace Go.Proofs.YtpoghableadkcaaGreatDoor
open Go.RowKit
set_option linter.unusedVariables false

theorem out26 {w:World} {tmps:Array Value} {g h:Nat} {a b c d x y:Value} (hH:Holds w g 93 [a,b,c,d]) (hK:Holds w h 26 [x,y])
  (h4:tmps[4]?.getD undef=.pointer (some ⟨g,0,none⟩)) (h6:tmps[6]?.getD undef=.pointer (some ⟨h,0,none⟩)):
  (results Tryz.f130 tmps).run Tryz.prog w=.ok (.tuple #[.agg #[a,b,c,d],tmps.getD 5 undef,.agg #[x,y]]) w:=by
 have c0:=hH.cell 0
 have c1:=hH.cell 1
 have c2:=hH.cell 2
 have c3:=hH.cell 3
 have d0:=hK.cell 0
 have d1:=hK.cell 1
 simp at c0 c1 c2 c3 d0 d1
 simp [results,Tryz.results130,h4,h6,go_sem,c0,c1,c2,c3,d0,d1]

set_option maxRecDepth 100000 in
theorem wordBad (c a:Nat) (w:World):Calls Tryz.prog 130 #[.int .i64 (c:Int),.int .i64 (a:Int)] w fun e w'=>e=.returned (.tuple #[tok 0 ⟨#[]⟩ 0 0,.int .i64 0,mish c a])∧Below w.heap.size w w':=by
 go_enter Tryz.func130,Tryz.ntmps130
 go_wp2
 obtain ⟨h1,h2,h3⟩:=laid34 w 93 #[.int .i64 0,.string ⟨#[]⟩,.int .i64 0,.int .i64 0] #[.int .i64 c,.int .i64 a]
 exact bodyPost_ret (out26 h1 h2 rfl rfl) rfl ⟨rfl,h3⟩

theorem out16 {w:World} {tmps:Array Value} {g h:Nat} {a b c d x y:Value} (hH:Holds w g 93 [a,b,c,d]) (hK:Holds w h 26 [x,y])
  (h4:tmps[2]?.getD undef=.pointer (some ⟨g,0,none⟩)) (h6:tmps[4]?.getD undef=.pointer (some ⟨h,0,none⟩)):
  (results Tryz.f101 tmps).run Tryz.prog w=.ok (.tuple #[.agg #[a,b,c,d],tmps.getD 3 undef,.agg #[x,y]]) w:=by
 have c0:=hH.cell 0
 have c1:=hH.cell 1
 have c2:=hH.cell 2
 have c3:=hH.cell 3
 have d0:=hK.cell 0
 have d1:=hK.cell 1
 simp at c0 c1 c2 c3 d0 d1
 simp [results,Tryz.results101,h4,h6,go_sem,c0,c1,c2,c3,d0,d1]

theorem drewN_cell {w:World} {p:Addr} {v:Value} (h:w.cell? p=some v) (n:Nat):(w.drewN n).cell? p=some v:=h
theorem lod_res {l:Bs} (h:l.all lod=true):isRes l=names.contains l:=by
 unfold isRes
 cases hc:signs.contains l with
 | false=>simp
 | true=>
  have hs:∀ x ∈ signs,x.all lod=false:=by decide +kernel
  rw [hs l (List.elem_iff.1 hc)] at h
  cases h
theorem all_take (p:UInt8→Bool):∀ l:Bs,(l.take (l.takeWhile p).length).all p=true
 | []=>by simp
 | c :: l=>by
  rw [List.takeWhile_cons]
  by_cases h:p c=true
  ·rw [if_pos h,List.length_cons,List.take_succ_cons,List.all_cons,h,all_take p l];rfl
  ·rw [if_neg h];simp

theorem enters29:∀ args w,(callFunc 133 args).run Tryz.prog w=.ok (.enter 133 args) w:=enters_of Tryz.func133 (by decide) rfl
theorem rune_grows (w:World):PredGrows Tryz.prog 133 #[] runeIn w:=fun W x hx _=>(wordRune x hx W).mono fun _ _ ⟨he,hw⟩=>⟨he,hw ▸ Below.refl _ _⟩

set_option maxHeartbeats 4000000 in
set_option maxRecDepth 100000 in
theorem lexWordL (s r:ByteArray) (i X:Nat) (m:Int) (hi:i < s.size) (hs:s.size ≤ 65536) (hr:s.extract i s.size=r) (hz:0 < r.size) (w:World) (hX:1 < X) (hS:Holds w X 134 [.string s,.int .i64 i])
  (hm:w.cell? ⟨1,0,none⟩=some (.int .i64 m)) (h1:1 < w.heap.size) (hL:ltr r[0].toNat=true):
  Calls Tryz.prog 101 #[.pointer (some ⟨X,0,none⟩)] w (LTokPost i (word 0 (rest r 0)) w):=by
 obtain ⟨R,hR⟩:∃ R,R=word 0 (rest r 0):=⟨_,rfl⟩
 rw [← hR]
 have HR:=Lib.hid hR
 clear hR
 have hXl:=hS.lt
 have y0:=hS.cell 0
 have y1:=hS.cell 1
 simp at y0 y1
 obtain ⟨hT,hM,hB⟩:=laid34 w 93 #[.int .i64 0,.string ⟨#[]⟩,.int .i64 0,.int .i64 0] #[.int .i64 0,.int .i64 0]
 have hSr:=hS.below hB hXl
 have hmr:=(Holds.same (hB.block 1 h1) 0).trans hm
 go_enter Tryz.func101,Tryz.ntmps101
 go_wp2
 go_quiet (fail)
 replace hT:=hT.drewN nq
 replace hM:=hM.drewN nq
 replace hSr:=hSr.drewN nq
 replace hB:=below_drewN' hB nq
 replace hmr:=drewN_cell hmr nq
 generalize (((w.alloc (.cells #[.int .i64 0,.string ⟨#[]⟩,.int .i64 0,.int .i64 0] 93)).alloc (.cells #[.int .i64 0,.int .i64 0] 26)).drewN nq)=wr at hT hM hB hSr hmr ⊢
 clear hm y0 y1
 go_wp2_with (fail)
 refine (lexLetter _ (UInt8.toNat_lt _) _).mono ?_
 rintro e wr ⟨rfl,rfl⟩
 go_wp2_with (fail)
 refine (Tryz.strings_TrimLeftFunc_grows 133 #[] enters29 runeIn r _ (rune_grows _)).mono ?_
 rintro e w2 ⟨rfl,hb2⟩
 replace hT:=hT.belowAll hb2
 replace hM:=hM.belowAll hb2
 replace hmr:=(Holds.same (hb2.block 1 (Nat.lt_of_lt_of_le h1 hB.size)) 0).trans hmr
 replace hSr:=hSr.belowAll hb2
 replace hB:=hB.trans (hb2.mono hB.size)
 have ht:=trim_size r
 have hnr:=takeWhile_len lod (rest r 0)
 have hn0:=tw_more lod hz (by unfold lod;rw [hL];rfl)
 obtain ⟨n,hn⟩:∃ n,((rest r 0).takeWhile lod).length=n:=⟨_,rfl⟩
 have hall:=all_take lod (rest r 0)
 rw [hn] at ht hnr hall
 rw [rest_len] at hnr
 generalize Lib.trimLeftF runeIn r=t at ht ⊢
 have hsub:(r.size:Int) - (t.size:Int)=(n:Int):=by omega
 have HN:=Lib.hid hn
 have hrl:r.size ≤ 65536:=by rw [← hr,ByteArray.size_extract];omega
 have HA:=Lib.hid hall
 clear hn hn0 hall ht
 by_cases h32:32 < n
 ·have HQ:=Lib.hid (word_ltr_bad hz hL HN.out h32)
  have c0:=hT.cell 0
  have c1:=hT.cell 1
  have c2:=hT.cell 2
  have c3:=hT.cell 3
  have d0:=hM.cell 0
  have d1:=hM.cell 1
  have f0:=hT.free 0
  have f1:=hT.free 1
  have f2:=hT.free 2
  have f3:=hT.free 3
  have g0:=hM.free 0
  have g1:=hM.free 1
  have x0:=hSr.cell 0
  have x1:=hSr.cell 1
  simp at c0 c1 c2 c3 d0 d1 x0 x1
  go_wp2_with (fail)
  refine (wordBad 22 i _).mono ?_
  rintro e w2 ⟨rfl,hb2⟩
  clear c0 c1 c2 c3 d0 d1 f0 f1 f2 f3 g0 g1 x0 x1
  replace hT:=hT.belowAll hb2
  replace hM:=hM.belowAll hb2
  replace hmr:=(Holds.same (hb2.block 1 (Nat.lt_of_lt_of_le h1 hB.size)) 0).trans hmr
  replace hSr:=hSr.belowAll hb2
  replace hB:=hB.trans (hb2.mono hB.size)
  have c0:=hT.cell 0
  have c1:=hT.cell 1
  have c2:=hT.cell 2
  have c3:=hT.cell 3
  have d0:=hM.cell 0
  have d1:=hM.cell 1
  have f0:=hT.free 0
  have f1:=hT.free 1
  have f2:=hT.free 2
  have f3:=hT.free 3
  have g0:=hM.free 0
  have g1:=hM.free 1
  have x0:=hSr.cell 0
  have x1:=hSr.cell 1
  simp at c0 c1 c2 c3 d0 d1 x0 x1
  unfold tok mish
  go_wp2
  obtain ⟨j1,j2,j3⟩:=six hT hM hB (.int .i64 0) (.string ⟨#[]⟩) (.int .i64 0) (.int .i64 0) (.int .i64 (22:Nat)) (.int .i64 (i:Nat))
  exact bodyPost_ret (out16 j1 j2 rfl rfl) rfl ⟨j3,by rw [HR.out,HQ.out];rfl⟩
 ·have HQ:=Lib.hid (word_ltr_ok hz hL HN.out h32)
  have hpc:=piece r 0 n
  rw [Nat.sub_zero] at hpc
  have hpl:((rest r 0).take n).length ≤ n:=by rw [List.length_take];omega
  have hall:=HA.out
  generalize (rest r 0).take n=p at hpc hpl hall HQ
  have hres:isRes (ByteArray.mk p.toArray).data.toList=names.contains p:=lod_res hall
  have hp64:(ByteArray.mk p.toArray).size < 4294967000:=by show p.toArray.size < _;simp;omega
  clear HA hall
  go_wp2_with (fail)
  refine (lexReserved _ m hp64 _ hmr).mono ?_
  rintro e w2 ⟨rfl,rfl⟩
  rw [hres]
  clear hres hp64
  by_cases hin:names.contains p=true
  ·rw [if_pos hin] at HQ
   rw [hin]
   have c0:=hT.cell 0
   have c1:=hT.cell 1
   have c2:=hT.cell 2
   have c3:=hT.cell 3
   have d0:=hM.cell 0
   have d1:=hM.cell 1
   have f0:=hT.free 0
   have f1:=hT.free 1
   have f2:=hT.free 2
   have f3:=hT.free 3
   have g0:=hM.free 0
   have g1:=hM.free 1
   have x0:=hSr.cell 0
   have x1:=hSr.cell 1
   simp at c0 c1 c2 c3 d0 d1 x0 x1
   go_wp2
   obtain ⟨j1,j2,j3⟩:=six hT hM hB (.int .i64 4) (.string ⟨p.toArray⟩) (.int .i64 0) (.int .i64 0) (.int .i64 0) (.int .i64 0)
   exact bodyPost_ret (out16 j1 j2 rfl rfl) rfl ⟨j3,by rw [HR.out,HQ.out];rw [Nat.zero_add];rfl⟩
  ·rw [if_neg hin] at HQ
   rw [eq_false_of_ne_true hin]
   have c0:=hT.cell 0
   have c1:=hT.cell 1
   have c2:=hT.cell 2
   have c3:=hT.cell 3
   have d0:=hM.cell 0
   have d1:=hM.cell 1
   have f0:=hT.free 0
   have f1:=hT.free 1
   have f2:=hT.free 2
   have f3:=hT.free 3
   have g0:=hM.free 0
   have g1:=hM.free 1
   have x0:=hSr.cell 0
   have x1:=hSr.cell 1
   simp at c0 c1 c2 c3 d0 d1 x0 x1
   go_wp2
   obtain ⟨j1,j2,j3⟩:=six hT hM hB (.int .i64 1) (.string ⟨p.toArray⟩) (.int .i64 0) (.int .i64 0) (.int .i64 0) (.int .i64 0)
   exact bodyPost_ret (out16 j1 j2 rfl rfl) rfl ⟨j3,by rw [HR.out,HQ.out];rw [Nat.zero_add];rfl⟩
end Go.Proofs.YtpoghableadkcaaGreatDoor
end
section
/- The walk of (*lex.scanner).word where a number begins. (Printed by mklword.py.) -/
namespace Go.Proofs.YtpoghableadkcaaGreatDoor
open Go.RowKit
set_option linter.unusedVariables false

set_option maxHeartbeats 8000000 in
set_option maxRecDepth 100000 in
theorem lexWordD (s r:ByteArray) (i X:Nat) (m:Int) (hi:i < s.size) (hs:s.size ≤ 65536) (hr:s.extract i s.size=r) (hz:0 < r.size) (w:World) (hX:1 < X) (hS:Holds w X 134 [.string s,.int .i64 i])
  (hm:w.cell? ⟨1,0,none⟩=some (.int .i64 m)) (h1:1 < w.heap.size) (hL:ltr r[0].toNat=false) (hD:dig r[0].toNat=true):
  Calls Tryz.prog 101 #[.pointer (some ⟨X,0,none⟩)] w (LTokPost i (word 0 (rest r 0)) w):=by
 obtain ⟨R,hR⟩:∃ R,R=word 0 (rest r 0):=⟨_,rfl⟩
 rw [← hR]
 have HR:=Lib.hid hR
 clear hR
 have hXl:=hS.lt
 have y0:=hS.cell 0
 have y1:=hS.cell 1
 simp at y0 y1
 obtain ⟨hT,hM,hB⟩:=laid34 w 93 #[.int .i64 0,.string ⟨#[]⟩,.int .i64 0,.int .i64 0] #[.int .i64 0,.int .i64 0]
 have hSr:=hS.below hB hXl
 have hmr:=(Holds.same (hB.block 1 h1) 0).trans hm
 go_enter Tryz.func101,Tryz.ntmps101
 go_wp2
 go_quiet (fail)
 replace hT:=hT.drewN nq
 replace hM:=hM.drewN nq
 replace hSr:=hSr.drewN nq
 replace hB:=below_drewN' hB nq
 replace hmr:=drewN_cell hmr nq
 generalize (((w.alloc (.cells #[.int .i64 0,.string ⟨#[]⟩,.int .i64 0,.int .i64 0] 93)).alloc (.cells #[.int .i64 0,.int .i64 0] 26)).drewN nq)=wr at hT hM hB hSr hmr ⊢
 clear hm y0 y1
 have hrl:r.size ≤ 65536:=by rw [← hr,ByteArray.size_extract];omega
 clear hmr hr
 go_wp2_with (fail)
 refine (lexLetter _ (UInt8.toNat_lt _) _).mono ?_
 rintro e wr ⟨rfl,rfl⟩
 go_wp2_with (fail)
 refine (lexDigit _ _).mono ?_
 rintro e wr ⟨rfl,rfl⟩
 go_wp2_with (fail)
 go_loopw [9,10] (fun n x wr=>∃ k V:Nat,n=.int .i64 (k:Int)∧x=.int .i64 (V:Int)∧k ≤ r.size∧Hid (((rest r 0).takeWhile isDig).length=k + ((rest r k).takeWhile isDig).length)∧Hid (V=val 0 ((rest r 0).take (min k 11)))∧Hid (V < 10 ^ min k 11)∧V < 100000000000∧Holds wr w.heap.size 93 [.int .i64 0,.string ⟨#[]⟩,.int .i64 0,.int .i64 0]∧Holds wr (w.heap.size + 1) 26 [.int .i64 0,.int .i64 0]∧Holds wr X 134 [.string s,.int .i64 i]∧Below w.heap.size w wr) (fun n _ _=>(r.size + 10 - intOf n).toNat)
 case atStart=>
  exact ⟨0,0,rfl,rfl,by omega,(show _=_ by simp),(show _=_ by simp [val]),(show _ < _ by simp),by omega,hT,hM,hSr,hB⟩
 case round=>
  clear hT hM hSr hB
  obtain ⟨k,V,rfl,rfl,hk,HK,HV,HB,hV,hT,hM,hSr,hB⟩:=hrel
  by_cases hl:k < r.size
  ·by_cases h1:dig r[k].toNat=true
   ·have HS:=Lib.hid (tw_more isDig hl h1)
    have hd1:48 ≤ (r[k].toNat:Int):=by unfold dig at h1;simp at h1;omega
    have hd2:(r[k].toNat:Int) ≤ 57:=by unfold dig at h1;simp at h1;omega
    by_cases h10:k < 11
    ·have h10':(k:Int) < 11:=by omega
     have hm:min k 11=k:=by omega
     rw [hm] at HV HB
     have hm':min (k + 1) 11=k + 1:=by omega
     have HX:Hid (10 * V + (r[k].toNat - 48)=val 0 ((rest r 0).take (min (k + 1) 11))):=by
      show _=_
      have e:=take_next (Nat.zero_le k) hl
      rw [Nat.sub_zero,Nat.sub_zero] at e
      rw [hm',e,val_app,← HV.out]
     have HY:Hid (10 * V + (r[k].toNat - 48) < 10 ^ min (k + 1) 11):=by
      show _ < _
      rw [hm']
      exact pow_ten HB.out (by omega)
     have hz:10 * V + (r[k].toNat - 48) < 100000000000:=Nat.lt_of_lt_of_le HY.out (Nat.le_trans (Nat.pow_le_pow_right (by omega) (Nat.min_le_right _ 11)) (by decide))
     clear hm hm'
     go_wp2_with (first | (go_at_call 131;refine (lexLetter _ (UInt8.toNat_lt _) _).mono ?_;rintro e w1 ⟨rfl,rfl⟩) | (go_at_call 134;refine (lexDigit _ _).mono ?_;rintro e w1 ⟨rfl,rfl⟩) | fail)
     exact ⟨⟨k + 1,10 * V + (r[k].toNat - 48),rfl,congrArg (Value.int .i64) (by omega),by omega,(show _=_ by rw [HK.out,HS.out];omega),HX,HY,hz,hT,hM,hSr,hB⟩,by simp [intOf];omega⟩
    ·have h10':decide ((k:Int) < 11)=false:=by simp;omega
     have hm:min (k + 1) 11=min k 11:=by omega
     have HM:=Lib.hid hm
     clear hm
     go_wp2_with (first | (go_at_call 131;refine (lexLetter _ (UInt8.toNat_lt _) _).mono ?_;rintro e w1 ⟨rfl,rfl⟩) | (go_at_call 134;refine (lexDigit _ _).mono ?_;rintro e w1 ⟨rfl,rfl⟩) | fail)
     exact ⟨⟨k + 1,V,rfl,rfl,by omega,(show _=_ by rw [HK.out,HS.out];omega),(by rw [HM.out];exact HV),(by rw [HM.out];exact HB),hV,hT,hM,hSr,hB⟩,by simp [intOf];omega⟩
   ·have h1':=eq_false_of_ne_true h1
    clear h1
    have HS:=Lib.hid (tw_stop isDig hl h1')
    have HN:Hid (((rest r 0).takeWhile isDig).length=k):=by
     have:=HK.out
     rw [HS.out] at this
     exact this
    have HW:=Lib.hid (word_dig hz hL hD HN.out)
    have e:0 + k=k:=Nat.zero_add k
    have E:=Lib.hid e
    clear e
    by_cases h10:10 < k
    ·have HQ:Hid (word 0 (rest r 0)=.bad 22 0):=by
      show _=_
      rw [HW.out,if_pos (by simp [h10])]
     have h10':(10:Int) < (k:Int):=by omega
     have c0:=hT.cell 0
     have c1:=hT.cell 1
     have c2:=hT.cell 2
     have c3:=hT.cell 3
     have d0:=hM.cell 0
     have d1:=hM.cell 1
     have f0:=hT.free 0
     have f1:=hT.free 1
     have f2:=hT.free 2
     have f3:=hT.free 3
     have g0:=hM.free 0
     have g1:=hM.free 1
     have x0:=hSr.cell 0
     have x1:=hSr.cell 1
     simp at c0 c1 c2 c3 d0 d1 x0 x1
     go_wp2_with (first | (go_at_call 131;refine (lexLetter _ (UInt8.toNat_lt _) _).mono ?_;rintro e w1 ⟨rfl,rfl⟩) | (go_at_call 134;refine (lexDigit _ _).mono ?_;rintro e w1 ⟨rfl,rfl⟩) | fail)
     refine (wordBad 22 i _).mono ?_
     rintro e w2 ⟨rfl,hb2⟩
     clear c0 c1 c2 c3 d0 d1 f0 f1 f2 f3 g0 g1 x0 x1
     replace hT:=hT.belowAll hb2
     replace hM:=hM.belowAll hb2
     replace hSr:=hSr.belowAll hb2
     replace hB:=hB.trans (hb2.mono hB.size)
     have c0:=hT.cell 0
     have c1:=hT.cell 1
     have c2:=hT.cell 2
     have c3:=hT.cell 3
     have d0:=hM.cell 0
     have d1:=hM.cell 1
     have f0:=hT.free 0
     have f1:=hT.free 1
     have f2:=hT.free 2
     have f3:=hT.free 3
     have g0:=hM.free 0
     have g1:=hM.free 1
     have x0:=hSr.cell 0
     have x1:=hSr.cell 1
     simp at c0 c1 c2 c3 d0 d1 x0 x1
     unfold tok mish
     go_wp2
     obtain ⟨j1,j2,j3⟩:=six hT hM hB (.int .i64 0) (.string ⟨#[]⟩) (.int .i64 0) (.int .i64 0) (.int .i64 (22:Nat)) (.int .i64 (i:Nat))
     exact bodyPost_ret (out16 j1 j2 rfl rfl) rfl ⟨j3,by rw [HR.out,HQ.out];rfl⟩
    ·have hmin:min k 11=k:=by omega
     rw [hmin] at HV HB
     clear hmin
     have h10':decide ((10:Int) < (k:Int))=false:=by simp;omega
     by_cases hbig:2147483647 < V
     ·have HQ:Hid (word 0 (rest r 0)=.bad 22 0):=by
       show _=_
       rw [HW.out,if_pos (by rw [← HV.out];simp [hbig])]
      have hbig':(2147483647:Int) < (V:Int):=by omega
      have c0:=hT.cell 0
      have c1:=hT.cell 1
      have c2:=hT.cell 2
      have c3:=hT.cell 3
      have d0:=hM.cell 0
      have d1:=hM.cell 1
      have f0:=hT.free 0
      have f1:=hT.free 1
      have f2:=hT.free 2
      have f3:=hT.free 3
      have g0:=hM.free 0
      have g1:=hM.free 1
      have x0:=hSr.cell 0
      have x1:=hSr.cell 1
      simp at c0 c1 c2 c3 d0 d1 x0 x1
      go_wp2_with (first | (go_at_call 131;refine (lexLetter _ (UInt8.toNat_lt _) _).mono ?_;rintro e w1 ⟨rfl,rfl⟩) | (go_at_call 134;refine (lexDigit _ _).mono ?_;rintro e w1 ⟨rfl,rfl⟩) | fail)
      refine (wordBad 22 i _).mono ?_
      rintro e w2 ⟨rfl,hb2⟩
      clear c0 c1 c2 c3 d0 d1 f0 f1 f2 f3 g0 g1 x0 x1
      replace hT:=hT.belowAll hb2
      replace hM:=hM.belowAll hb2
      replace hSr:=hSr.belowAll hb2
      replace hB:=hB.trans (hb2.mono hB.size)
      have c0:=hT.cell 0
      have c1:=hT.cell 1
      have c2:=hT.cell 2
      have c3:=hT.cell 3
      have d0:=hM.cell 0
      have d1:=hM.cell 1
      have f0:=hT.free 0
      have f1:=hT.free 1
      have f2:=hT.free 2
      have f3:=hT.free 3
      have g0:=hM.free 0
      have g1:=hM.free 1
      have x0:=hSr.cell 0
      have x1:=hSr.cell 1
      simp at c0 c1 c2 c3 d0 d1 x0 x1
      unfold tok mish
      go_wp2
      obtain ⟨j1,j2,j3⟩:=six hT hM hB (.int .i64 0) (.string ⟨#[]⟩) (.int .i64 0) (.int .i64 0) (.int .i64 (22:Nat)) (.int .i64 (i:Nat))
      exact bodyPost_ret (out16 j1 j2 rfl rfl) rfl ⟨j3,by rw [HR.out,HQ.out];rfl⟩
     ·have hbig':decide ((2147483647:Int) < (V:Int))=false:=by simp;omega
      by_cases hl2:ltr r[k].toNat=true
      ·have HQ:Hid (word 0 (rest r 0)=.bad 22 0):=by
        show _=_
        rw [HW.out,if_pos (by rw [E.out,head_at hl,hl2];simp)]
       have c0:=hT.cell 0
       have c1:=hT.cell 1
       have c2:=hT.cell 2
       have c3:=hT.cell 3
       have d0:=hM.cell 0
       have d1:=hM.cell 1
       have f0:=hT.free 0
       have f1:=hT.free 1
       have f2:=hT.free 2
       have f3:=hT.free 3
       have g0:=hM.free 0
       have g1:=hM.free 1
       have x0:=hSr.cell 0
       have x1:=hSr.cell 1
       simp at c0 c1 c2 c3 d0 d1 x0 x1
       go_wp2_with (first | (go_at_call 131;refine (lexLetter _ (UInt8.toNat_lt _) _).mono ?_;rintro e w1 ⟨rfl,rfl⟩) | (go_at_call 134;refine (lexDigit _ _).mono ?_;rintro e w1 ⟨rfl,rfl⟩) | fail)
       refine (wordBad 22 i _).mono ?_
       rintro e w2 ⟨rfl,hb2⟩
       clear c0 c1 c2 c3 d0 d1 f0 f1 f2 f3 g0 g1 x0 x1
       replace hT:=hT.belowAll hb2
       replace hM:=hM.belowAll hb2
       replace hSr:=hSr.belowAll hb2
       replace hB:=hB.trans (hb2.mono hB.size)
       have c0:=hT.cell 0
       have c1:=hT.cell 1
       have c2:=hT.cell 2
       have c3:=hT.cell 3
       have d0:=hM.cell 0
       have d1:=hM.cell 1
       have f0:=hT.free 0
       have f1:=hT.free 1
       have f2:=hT.free 2
       have f3:=hT.free 3
       have g0:=hM.free 0
       have g1:=hM.free 1
       have x0:=hSr.cell 0
       have x1:=hSr.cell 1
       simp at c0 c1 c2 c3 d0 d1 x0 x1
       unfold tok mish
       go_wp2
       obtain ⟨j1,j2,j3⟩:=six hT hM hB (.int .i64 0) (.string ⟨#[]⟩) (.int .i64 0) (.int .i64 0) (.int .i64 (22:Nat)) (.int .i64 (i:Nat))
       exact bodyPost_ret (out16 j1 j2 rfl rfl) rfl ⟨j3,by rw [HR.out,HQ.out];rfl⟩
      ·have hl2':=eq_false_of_ne_true hl2
       have HQ:Hid (word 0 (rest r 0)=.ok (⟨2,(rest r 0).take k,V,0⟩,k)):=by
        show _=_
        rw [HW.out,if_neg (by rw [← HV.out,E.out,head_at hl,hl2'];simp;omega),← HV.out,E.out]
       have hp:=piece r 0 k
       rw [Nat.sub_zero] at hp
       clear HW HV HB HK HN HS
       have c0:=hT.cell 0
       have c1:=hT.cell 1
       have c2:=hT.cell 2
       have c3:=hT.cell 3
       have d0:=hM.cell 0
       have d1:=hM.cell 1
       have f0:=hT.free 0
       have f1:=hT.free 1
       have f2:=hT.free 2
       have f3:=hT.free 3
       have g0:=hM.free 0
       have g1:=hM.free 1
       have x0:=hSr.cell 0
       have x1:=hSr.cell 1
       simp at c0 c1 c2 c3 d0 d1 x0 x1
       go_wp2_with (first | (go_at_call 131;refine (lexLetter _ (UInt8.toNat_lt _) _).mono ?_;rintro e w1 ⟨rfl,rfl⟩) | (go_at_call 134;refine (lexDigit _ _).mono ?_;rintro e w1 ⟨rfl,rfl⟩) | fail)
       obtain ⟨j1,j2,j3⟩:=six hT hM hB (.int .i64 2) (.string ⟨((rest r 0).take k).toArray⟩) (.int .i64 (V:Nat)) (.int .i64 0) (.int .i64 0) (.int .i64 0)
       exact bodyPost_ret (out16 j1 j2 rfl rfl) rfl ⟨j3,by rw [HR.out,HQ.out];rfl⟩
  ·have hl':decide ((k:Int) < (r.size:Int))=false:=by simp;omega
   have HS:=Lib.hid (tw_end isDig (s:=r) (k:=k) (by omega))
   have HN:Hid (((rest r 0).takeWhile isDig).length=k):=by
    have:=HK.out
    rw [HS.out] at this
    exact this
   have HW:=Lib.hid (word_dig hz hL hD HN.out)
   have e:0 + k=k:=Nat.zero_add k
   have E:=Lib.hid e
   clear e
   by_cases h10:10 < k
   ·have HQ:Hid (word 0 (rest r 0)=.bad 22 0):=by
     show _=_
     rw [HW.out,if_pos (by simp [h10])]
    have h10':(10:Int) < (k:Int):=by omega
    have c0:=hT.cell 0
    have c1:=hT.cell 1
    have c2:=hT.cell 2
    have c3:=hT.cell 3
    have d0:=hM.cell 0
    have d1:=hM.cell 1
    have f0:=hT.free 0
    have f1:=hT.free 1
    have f2:=hT.free 2
    have f3:=hT.free 3
    have g0:=hM.free 0
    have g1:=hM.free 1
    have x0:=hSr.cell 0
    have x1:=hSr.cell 1
    simp at c0 c1 c2 c3 d0 d1 x0 x1
    go_wp2_with (first | (go_at_call 131;refine (lexLetter _ (UInt8.toNat_lt _) _).mono ?_;rintro e w1 ⟨rfl,rfl⟩) | (go_at_call 134;refine (lexDigit _ _).mono ?_;rintro e w1 ⟨rfl,rfl⟩) | fail)
    refine (wordBad 22 i _).mono ?_
    rintro e w2 ⟨rfl,hb2⟩
    clear c0 c1 c2 c3 d0 d1 f0 f1 f2 f3 g0 g1 x0 x1
    replace hT:=hT.belowAll hb2
    replace hM:=hM.belowAll hb2
    replace hSr:=hSr.belowAll hb2
    replace hB:=hB.trans (hb2.mono hB.size)
    have c0:=hT.cell 0
    have c1:=hT.cell 1
    have c2:=hT.cell 2
    have c3:=hT.cell 3
    have d0:=hM.cell 0
    have d1:=hM.cell 1
    have f0:=hT.free 0
    have f1:=hT.free 1
    have f2:=hT.free 2
    have f3:=hT.free 3
    have g0:=hM.free 0
    have g1:=hM.free 1
    have x0:=hSr.cell 0
    have x1:=hSr.cell 1
    simp at c0 c1 c2 c3 d0 d1 x0 x1
    unfold tok mish
    go_wp2
    obtain ⟨j1,j2,j3⟩:=six hT hM hB (.int .i64 0) (.string ⟨#[]⟩) (.int .i64 0) (.int .i64 0) (.int .i64 (22:Nat)) (.int .i64 (i:Nat))
    exact bodyPost_ret (out16 j1 j2 rfl rfl) rfl ⟨j3,by rw [HR.out,HQ.out];rfl⟩
   ·have hmin:min k 11=k:=by omega
    rw [hmin] at HV HB
    clear hmin
    have h10':decide ((10:Int) < (k:Int))=false:=by simp;omega
    by_cases hbig:2147483647 < V
    ·have HQ:Hid (word 0 (rest r 0)=.bad 22 0):=by
      show _=_
      rw [HW.out,if_pos (by rw [← HV.out];simp [hbig])]
     have hbig':(2147483647:Int) < (V:Int):=by omega
     have c0:=hT.cell 0
     have c1:=hT.cell 1
     have c2:=hT.cell 2
     have c3:=hT.cell 3
     have d0:=hM.cell 0
     have d1:=hM.cell 1
     have f0:=hT.free 0
     have f1:=hT.free 1
     have f2:=hT.free 2
     have f3:=hT.free 3
     have g0:=hM.free 0
     have g1:=hM.free 1
     have x0:=hSr.cell 0
     have x1:=hSr.cell 1
     simp at c0 c1 c2 c3 d0 d1 x0 x1
     go_wp2_with (first | (go_at_call 131;refine (lexLetter _ (UInt8.toNat_lt _) _).mono ?_;rintro e w1 ⟨rfl,rfl⟩) | (go_at_call 134;refine (lexDigit _ _).mono ?_;rintro e w1 ⟨rfl,rfl⟩) | fail)
     refine (wordBad 22 i _).mono ?_
     rintro e w2 ⟨rfl,hb2⟩
     clear c0 c1 c2 c3 d0 d1 f0 f1 f2 f3 g0 g1 x0 x1
     replace hT:=hT.belowAll hb2
     replace hM:=hM.belowAll hb2
     replace hSr:=hSr.belowAll hb2
     replace hB:=hB.trans (hb2.mono hB.size)
     have c0:=hT.cell 0
     have c1:=hT.cell 1
     have c2:=hT.cell 2
     have c3:=hT.cell 3
     have d0:=hM.cell 0
     have d1:=hM.cell 1
     have f0:=hT.free 0
     have f1:=hT.free 1
     have f2:=hT.free 2
     have f3:=hT.free 3
     have g0:=hM.free 0
     have g1:=hM.free 1
     have x0:=hSr.cell 0
     have x1:=hSr.cell 1
     simp at c0 c1 c2 c3 d0 d1 x0 x1
     unfold tok mish
     go_wp2
     obtain ⟨j1,j2,j3⟩:=six hT hM hB (.int .i64 0) (.string ⟨#[]⟩) (.int .i64 0) (.int .i64 0) (.int .i64 (22:Nat)) (.int .i64 (i:Nat))
     exact bodyPost_ret (out16 j1 j2 rfl rfl) rfl ⟨j3,by rw [HR.out,HQ.out];rfl⟩
    ·have hbig':decide ((2147483647:Int) < (V:Int))=false:=by simp;omega
     have HQ:Hid (word 0 (rest r 0)=.ok (⟨2,(rest r 0).take k,V,0⟩,k)):=by
      show _=_
      rw [HW.out,if_neg (by rw [← HV.out,E.out,head_end (by omega)];simp;omega),← HV.out,E.out]
     have hp:=piece r 0 k
     rw [Nat.sub_zero] at hp
     clear HW HV HB HK HN HS
     have c0:=hT.cell 0
     have c1:=hT.cell 1
     have c2:=hT.cell 2
     have c3:=hT.cell 3
     have d0:=hM.cell 0
     have d1:=hM.cell 1
     have f0:=hT.free 0
     have f1:=hT.free 1
     have f2:=hT.free 2
     have f3:=hT.free 3
     have g0:=hM.free 0
     have g1:=hM.free 1
     have x0:=hSr.cell 0
     have x1:=hSr.cell 1
     simp at c0 c1 c2 c3 d0 d1 x0 x1
     go_wp2_with (first | (go_at_call 131;refine (lexLetter _ (UInt8.toNat_lt _) _).mono ?_;rintro e w1 ⟨rfl,rfl⟩) | (go_at_call 134;refine (lexDigit _ _).mono ?_;rintro e w1 ⟨rfl,rfl⟩) | fail)
     obtain ⟨j1,j2,j3⟩:=six hT hM hB (.int .i64 2) (.string ⟨((rest r 0).take k).toArray⟩) (.int .i64 (V:Nat)) (.int .i64 0) (.int .i64 0) (.int .i64 0)
     exact bodyPost_ret (out16 j1 j2 rfl rfl) rfl ⟨j3,by rw [HR.out,HQ.out];rfl⟩
end Go.Proofs.YtpoghableadkcaaGreatDoor
end
section
/- The walk of (*lex.scanner).word where a text or another byte begins, and all together. (Printed by mklword.py.) -/
namespace Go.Proofs.YtpoghableadkcaaGreatDoor
open Go.RowKit
set_option linter.unusedVariables false

/-- The first of the words that begins l. -/
def firstOf (ws:List Bs) (l:Bs):Res (Tk × Nat):=
 match ws.find? fun x=>x.isPrefixOf l with
 | some x=>.ok (⟨4,x,0,0⟩,x.length)
 | none=>.bad 20 0

theorem find_twos (c d:UInt8) (r:Bs):∀ ws:List Bs,(∀ x ∈ ws,x.length=2)→ws.find? (fun x=>x.isPrefixOf (c :: d :: r))=if ws.contains [c,d] then some [c,d] else none
 | [],_=>by simp
 | x :: ws,h=>by
  have ih:=find_twos c d r ws fun y hy=>h y (List.mem_cons_of_mem _ hy)
  have hx:=h x (List.mem_cons_self ..)
  match x,hx with
  | [a,b],_=>
   rw [List.find?_cons,List.contains_cons,ih]
   have hp:List.isPrefixOf [a,b] (c :: d :: r)=([c,d] == [a,b]):=by
    rw [Bool.eq_iff_iff];simp [List.isPrefixOf];constructor <;> (rintro ⟨rfl,rfl⟩;exact ⟨rfl,rfl⟩)
   rw [hp]
   by_cases he:([c,d] == [a,b])=true
   ·rw [he]
    have:=eq_of_beq he
    simp [this]
   ·rw [eq_false_of_ne_true he];rfl
theorem find_twos_one (c:UInt8):∀ ws:List Bs,(∀ x ∈ ws,x.length=2)→ws.find? (fun x=>x.isPrefixOf [c])=none
 | [],_=>rfl
 | x :: ws,h=>by
  have ih:=find_twos_one c ws fun y hy=>h y (List.mem_cons_of_mem _ hy)
  have hx:=h x (List.mem_cons_self ..)
  match x,hx with
  | [a,b],_=>
   rw [List.find?_cons,ih]
   simp [List.isPrefixOf]
theorem find_ones (c:UInt8) (r:Bs):∀ ns:Bs,(ns.map fun n=>[n]).find? (fun x=>x.isPrefixOf (c :: r))=if ns.contains c then some [c] else none
 | []=>by simp
 | n :: ns=>by
  rw [List.map_cons,List.find?_cons,List.contains_cons,find_ones c r ns]
  have hp:List.isPrefixOf [n] (c :: r)=(c == n):=by rw [Bool.eq_iff_iff];simp [List.isPrefixOf];exact ⟨fun h=>h.symm,fun h=>h.symm⟩
  rw [hp]
  by_cases he:(c == n)=true
  ·rw [he]
   have:=eq_of_beq he
   simp [this]
  ·rw [eq_false_of_ne_true he];rfl

def oneBytes:Bs:=[123,125,40,41,91,93,59,44,58,46,33,63,61,60,62,43,45,42,47,37,38,124,94,126,64]
theorem isOne_bytes (c:UInt8):isOne c.toNat=oneBytes.contains c:=by
 have:∀ n:Fin 256,isOne n.val=oneBytes.contains (UInt8.ofNat n.val):=by decide +kernel
 have h:=this ⟨c.toNat,c.toNat_lt⟩
 simpa using h
theorem signs_eq:signs=twos ++ oneBytes.map fun n=>[n]:=rfl
theorem twos_two:∀ x ∈ twos,x.length=2:=by decide +kernel

theorem sign_first:∀ l:Bs,sign 0 l=firstOf signs l
 | []=>by decide +kernel
 | [c]=>by
  unfold firstOf
  rw [signs_eq,List.find?_append,find_twos_one c _ twos_two,find_ones,sign,isOne_bytes]
  by_cases h:oneBytes.contains c=true
  ·rw [if_pos h,if_pos h];rfl
  ·rw [if_neg h,if_neg h];rfl
 | c :: d :: r=>by
  unfold firstOf
  rw [signs_eq,List.find?_append,find_twos c d r _ twos_two,find_ones,sign,isOne_bytes]
  by_cases h2:twos.contains [c,d]=true
  ·rw [if_pos h2,if_pos h2];rfl
  ·rw [if_neg h2,if_neg h2]
   by_cases h:oneBytes.contains c=true
   ·rw [if_pos h,if_pos h];rfl
   ·rw [if_neg h,if_neg h];rfl

theorem first_hit {ws:List Bs} {l x:Bs} {k:Nat} (hx:ws[k]?=some x) (hp:x.isPrefixOf l=true):firstOf (ws.drop k) l=.ok (⟨4,x,0,0⟩,x.length):=by
 have hk:k < ws.length:=(List.getElem?_eq_some_iff.1 hx).1
 have he:ws[k]=x:=(List.getElem?_eq_some_iff.1 hx).2
 unfold firstOf
 rw [List.drop_eq_getElem_cons hk,List.find?_cons,he,hp]
theorem first_miss {ws:List Bs} {l x:Bs} {k:Nat} (hx:ws[k]?=some x) (hp:x.isPrefixOf l=false):firstOf (ws.drop k) l=firstOf (ws.drop (k + 1)) l:=by
 have hk:k < ws.length:=(List.getElem?_eq_some_iff.1 hx).1
 have he:ws[k]=x:=(List.getElem?_eq_some_iff.1 hx).2
 unfold firstOf
 rw [List.drop_eq_getElem_cons hk,List.find?_cons,he,hp]
theorem first_end {ws:List Bs} {l:Bs} {k:Nat} (h:ws.length ≤ k):firstOf (ws.drop k) l=.bad 20 0:=by
 unfold firstOf
 rw [List.drop_eq_nil_of_le h];rfl

def scells (ws:List Bs):List Value:=ws.map fun l=>Value.string ⟨l.toArray⟩
theorem scells_at {ws:List Bs} {k:Nat} {x:Bs} (h:ws[k]?=some x):(scells ws)[k]?=some (.string ⟨x.toArray⟩):=by simp [scells,h]
theorem fields_signs:Lib.fields [58,58,32,33,33,32,63,63,32,61,61,32,33,61,32,60,61,32,62,61,32,60,60,32,62,62,32,38,38,32,124,124,32,43,43,32,45,45,32,45,62,32,123,32,125,32,40,32,41,32,91,32,93,32,59,32,44,32,58,32,46,32,33,32,63,32,61,32,60,32,62,32,43,32,45,32,42,32,47,32,37,32,38,32,124,32,94,32,126,32,64]=signs:=by decide +kernel
theorem ascii_signs:∀ (j:Nat) (b:UInt8),([58,58,32,33,33,32,63,63,32,61,61,32,33,61,32,60,61,32,62,61,32,60,60,32,62,62,32,38,38,32,124,124,32,43,43,32,45,45,32,45,62,32,123,32,125,32,40,32,41,32,91,32,93,32,59,32,44,32,58,32,46,32,33,32,63,32,61,32,60,32,62,32,43,32,45,32,42,32,47,32,37,32,38,32,124,32,94,32,126,32,64]:Bs)[j]?=some b→b.toNat < 128:=fun j b h=>
 (show ∀ b ∈ ([58,58,32,33,33,32,63,63,32,61,61,32,33,61,32,60,61,32,62,61,32,60,60,32,62,62,32,38,38,32,124,124,32,43,43,32,45,45,32,45,62,32,123,32,125,32,40,32,41,32,91,32,93,32,59,32,44,32,58,32,46,32,33,32,63,32,61,32,60,32,62,32,43,32,45,32,42,32,47,32,37,32,38,32,124,32,94,32,126,32,64]:Bs),b.toNat < 128 by decide +kernel) b (List.mem_of_getElem? h)
theorem tab_at:Tryz.prog.globalNamed "strings.asciiSpace"=some 0:=by kernel_rfl
theorem tab_same {w w':World} (h:Lib.TabIs Tryz.prog w "strings.asciiSpace" .u8 Lib.asciiSpaceTab) (e:w'.heap[0]?=w.heap[0]?):Lib.TabIs Tryz.prog w' "strings.asciiSpace" .u8 Lib.asciiSpaceTab:=by
 unfold Lib.TabIs World.var? at h ⊢
 rw [tab_at] at h ⊢
 simp only [Option.bind_some] at h ⊢
 rw [e];exact h
theorem signs_len:signs.length=39:=by decide +kernel
theorem signsRow (w:World) (htab:Lib.TabIs Tryz.prog w "strings.asciiSpace" .u8 Lib.asciiSpaceTab):
  Calls Tryz.prog 137 #[.string ⟨#[58,58,32,33,33,32,63,63,32,61,61,32,33,61,32,60,61,32,62,61,32,60,60,32,62,62,32,38,38,32,124,124,32,43,43,32,45,45,32,45,62,32,123,32,125,32,40,32,41,32,91,32,93,32,59,32,44,32,58,32,46,32,33,32,63,32,61,32,60,32,62,32,43,32,45,32,42,32,47,32,37,32,38,32,124,32,94,32,126,32,64]⟩] w fun e w'=>e=.returned (.slice (some ⟨w.heap.size,0,none⟩) 39 39)∧Holds w' w.heap.size 9 (scells signs)∧Below w.heap.size w w':=by
 refine (Tryz.strings_Fields _ _ (by decide) ascii_signs htab).mono ?_
 rintro e w2 ⟨rfl,rfl⟩
 rw [show Lib.fields (ByteArray.mk #[58,58,32,33,33,32,63,63,32,61,61,32,33,61,32,60,61,32,62,61,32,60,60,32,62,62,32,38,38,32,124,124,32,43,43,32,45,45,32,45,62,32,123,32,125,32,40,32,41,32,91,32,93,32,59,32,44,32,58,32,46,32,33,32,63,32,61,32,60,32,62,32,43,32,45,32,42,32,47,32,37,32,38,32,124,32,94,32,126,32,64]).data.toList=signs from fields_signs,signs_len]
 have h1:Holds (w.alloc (.cells (scells signs).toArray 9)) w.heap.size 9 (scells signs):=Holds.new w 9 (scells signs).toArray
 have h2:Below w.heap.size w (w.alloc (.cells (scells signs).toArray 9)):=(Below.refl _ _).alloc (Nat.le_refl _) _
 exact ⟨rfl,h1,h2⟩

set_option maxHeartbeats 8000000 in
set_option maxRecDepth 100000 in
theorem lexWordQ (s r:ByteArray) (i X:Nat) (m:Int) (hi:i < s.size) (hs:s.size ≤ 65536) (hr:s.extract i s.size=r) (hz:0 < r.size) (w:World) (hX:1 < X) (hS:Holds w X 134 [.string s,.int .i64 i])
  (hm:w.cell? ⟨1,0,none⟩=some (.int .i64 m)) (h1:1 < w.heap.size) (hL:ltr r[0].toNat=false) (hD:dig r[0].toNat=false) (hq:(r[0] == 34)=true):
  Calls Tryz.prog 101 #[.pointer (some ⟨X,0,none⟩)] w (LTokPost i (word 0 (rest r 0)) w):=by
 have hir:i + r.size=s.size:=by rw [← hr,ByteArray.size_extract];omega
 have hC:=Lib.hid fun w hS=>lexQuoted r s i X hir hz hs w hS
 have hrl:r.size ≤ 65536:=by omega
 obtain ⟨R,hR⟩:∃ R,R=word 0 (rest r 0):=⟨_,rfl⟩
 rw [← hR]
 have HR:=Lib.hid hR
 clear hR
 have hXl:=hS.lt
 have y0:=hS.cell 0
 have y1:=hS.cell 1
 simp at y0 y1
 obtain ⟨hT,hM,hB⟩:=laid34 w 93 #[.int .i64 0,.string ⟨#[]⟩,.int .i64 0,.int .i64 0] #[.int .i64 0,.int .i64 0]
 have hSr:=hS.below hB hXl
 have hmr:=(Holds.same (hB.block 1 h1) 0).trans hm
 go_enter Tryz.func101,Tryz.ntmps101
 go_wp2
 go_quiet (fail)
 replace hT:=hT.drewN nq
 replace hM:=hM.drewN nq
 replace hSr:=hSr.drewN nq
 replace hB:=below_drewN' hB nq
 replace hmr:=drewN_cell hmr nq
 generalize (((w.alloc (.cells #[.int .i64 0,.string ⟨#[]⟩,.int .i64 0,.int .i64 0] 93)).alloc (.cells #[.int .i64 0,.int .i64 0] 26)).drewN nq)=wr at hT hM hB hSr hmr ⊢
 clear hm y0 y1
 have HQ:=Lib.hid (word_quo hz hL hD hq)
 have hq':=(u8i r[0] 34).trans hq
 change ((r[0].toNat:Int) == 34)=true at hq'
 clear hq hr hmr
 go_wp2_with (first | (go_at_call 131;refine (lexLetter _ (UInt8.toNat_lt _) _).mono ?_;rintro e w1 ⟨rfl,rfl⟩) | (go_at_call 134;refine (lexDigit _ _).mono ?_;rintro e w1 ⟨rfl,rfl⟩) | fail)
 refine (hC.out _ hSr).mono ?_
 rintro e w2 ⟨hb2,hp⟩
 replace hT:=hT.belowAll hb2
 replace hM:=hM.belowAll hb2
 replace hSr:=hSr.belowAll hb2
 replace hB:=hB.trans (hb2.mono hB.size)
 have c0:=hT.cell 0
 have c1:=hT.cell 1
 have c2:=hT.cell 2
 have c3:=hT.cell 3
 have d0:=hM.cell 0
 have d1:=hM.cell 1
 have f0:=hT.free 0
 have f1:=hT.free 1
 have f2:=hT.free 2
 have f3:=hT.free 3
 have g0:=hM.free 0
 have g1:=hM.free 1
 have x0:=hSr.cell 0
 have x1:=hSr.cell 1
 simp at c0 c1 c2 c3 d0 d1 x0 x1
 generalize hG:quoRes 0 (quo 1 [] (rest r 1))=G at hp HQ
 cases G with
 | bad c a=>
  simp only at hp
  subst hp
  unfold tok mish
  go_wp2
  obtain ⟨j1,j2,j3⟩:=six hT hM hB (.int .i64 0) (.string ⟨#[]⟩) (.int .i64 0) (.int .i64 0) (.int .i64 (c:Nat)) (.int .i64 ((i + a:Nat):Int))
  exact bodyPost_ret (out16 j1 j2 rfl rfl) rfl ⟨j3,by rw [HR.out,HQ.out];rfl⟩
 | ok q=>
  obtain ⟨t,k⟩:=q
  simp only at hp
  subst hp
  unfold tok mish
  go_wp2
  obtain ⟨j1,j2,j3⟩:=six hT hM hB (.int .i64 (t.kind:Nat)) (.string ⟨t.text.toArray⟩) (.int .i64 (t.num:Nat)) (.int .i64 0) (.int .i64 0) (.int .i64 0)
  exact bodyPost_ret (out16 j1 j2 rfl rfl) rfl ⟨j3,by rw [HR.out,HQ.out];rfl⟩

set_option maxHeartbeats 8000000 in
set_option maxRecDepth 100000 in
theorem lexWordS (s r:ByteArray) (i X:Nat) (m:Int) (hi:i < s.size) (hs:s.size ≤ 65536) (hr:s.extract i s.size=r) (hz:0 < r.size) (w:World) (hX:1 < X) (hS:Holds w X 134 [.string s,.int .i64 i])
  (hm:w.cell? ⟨1,0,none⟩=some (.int .i64 m)) (h1:1 < w.heap.size) (htab:Lib.TabIs Tryz.prog w "strings.asciiSpace" .u8 Lib.asciiSpaceTab) (hL:ltr r[0].toNat=false) (hD:dig r[0].toNat=false) (hq:(r[0] == 34)=false):
  Calls Tryz.prog 101 #[.pointer (some ⟨X,0,none⟩)] w (LTokPost i (word 0 (rest r 0)) w):=by
 have hrl:r.size ≤ 65536:=by rw [← hr,ByteArray.size_extract];omega
 obtain ⟨R,hR⟩:∃ R,R=word 0 (rest r 0):=⟨_,rfl⟩
 rw [← hR]
 have HR:=Lib.hid hR
 clear hR
 have hXl:=hS.lt
 have y0:=hS.cell 0
 have y1:=hS.cell 1
 simp at y0 y1
 obtain ⟨hT,hM,hB⟩:=laid34 w 93 #[.int .i64 0,.string ⟨#[]⟩,.int .i64 0,.int .i64 0] #[.int .i64 0,.int .i64 0]
 have hSr:=hS.below hB hXl
 have hmr:=(Holds.same (hB.block 1 h1) 0).trans hm
 go_enter Tryz.func101,Tryz.ntmps101
 go_wp2
 go_quiet (fail)
 replace hT:=hT.drewN nq
 replace hM:=hM.drewN nq
 replace hSr:=hSr.drewN nq
 replace hB:=below_drewN' hB nq
 replace hmr:=drewN_cell hmr nq
 generalize (((w.alloc (.cells #[.int .i64 0,.string ⟨#[]⟩,.int .i64 0,.int .i64 0] 93)).alloc (.cells #[.int .i64 0,.int .i64 0] 26)).drewN nq)=wr at hT hM hB hSr hmr ⊢
 clear hm y0 y1
 have hws:=(word_other hz hL hD hq).trans (sign_first _)
 have HQ:Hid (R=firstOf (signs.drop 0) (rest r 0)):=by show _=_;rw [HR.out];exact hws
 have hq':=(u8i r[0] 34).trans hq
 change ((r[0].toNat:Int) == 34)=false at hq'
 clear hq hr hmr hws
 have htab':=tab_same htab (hB.block 0 (Nat.lt_trans Nat.zero_lt_one h1))
 clear htab
 go_wp2_with (first | (go_at_call 131;refine (lexLetter _ (UInt8.toNat_lt _) _).mono ?_;rintro e w1 ⟨rfl,rfl⟩) | (go_at_call 134;refine (lexDigit _ _).mono ?_;rintro e w1 ⟨rfl,rfl⟩) | fail)
 refine (signsRow _ htab').mono ?_
 rintro e w2 ⟨rfl,hH,hb2⟩
 replace hT:=hT.belowAll hb2
 replace hM:=hM.belowAll hb2
 replace hSr:=hSr.belowAll hb2
 replace hB:=hB.trans (hb2.mono hB.size)
 clear hb2 htab'
 generalize w1.heap.size=F at hH ⊢
 go_wp2
 go_loopw [130] (fun n wr=>∃ k:Nat,n=.int .i64 (k:Int)∧k ≤ 39∧Hid (R=firstOf (signs.drop k) (rest r 0))∧Holds wr F 9 (scells signs)∧Holds wr w.heap.size 93 [.int .i64 0,.string ⟨#[]⟩,.int .i64 0,.int .i64 0]∧Holds wr (w.heap.size + 1) 26 [.int .i64 0,.int .i64 0]∧Holds wr X 134 [.string s,.int .i64 i]∧Below w.heap.size w wr) (fun n _=>(50 - intOf n).toNat)
 case atStart=>exact ⟨0,rfl,by omega,HQ,hH,hT,hM,hSr,hB⟩
 case round=>
  clear hT hM hSr hB hH HQ
  obtain ⟨k,rfl,hk,HQ,hH,hT,hM,hSr,hB⟩:=hrel
  by_cases hl:k < 39
  ·obtain ⟨x,hx⟩:∃ x,signs[k]?=some x:=⟨_,List.getElem?_eq_getElem (by rw [signs_len];exact hl)⟩
   have hc:=(hH.cell k).trans (scells_at hx)
   have hk39:(k:Int) < 39:=by omega
   have HX:=Lib.hid hx
   clear hx
   go_wp2_with (fail)
   refine (Tryz.strings_HasPrefix _ _ _).mono ?_
   rintro e wr ⟨rfl,rfl⟩
   have hpre:Lib.hasPrefix r.data.toList (ByteArray.mk x.toArray).data.toList=x.isPrefixOf (rest r 0):=by unfold Lib.hasPrefix rest;simp
   rw [hpre]
   clear hpre
   by_cases hp:x.isPrefixOf (rest r 0)=true
   ·rw [hp]
    have HW:Hid (R=.ok (⟨4,x,0,0⟩,x.length)):=by show _=_;rw [HQ.out];exact first_hit HX.out hp
    have hxl:x.length ≤ 2:=by
     have:=HX.out
     have h39:∀ y ∈ signs,y.length ≤ 2:=by decide +kernel
     exact h39 x (List.mem_of_getElem? this)
    clear hp
    have hsz:(ByteArray.mk x.toArray).size=x.length:=by show x.toArray.size=_;simp
 
    have c0:=hT.cell 0
    have c1:=hT.cell 1
    have c2:=hT.cell 2
    have c3:=hT.cell 3
    have d0:=hM.cell 0
    have d1:=hM.cell 1
    have f0:=hT.free 0
    have f1:=hT.free 1
    have f2:=hT.free 2
    have f3:=hT.free 3
    have g0:=hM.free 0
    have g1:=hM.free 1
    have x0:=hSr.cell 0
    have x1:=hSr.cell 1
    simp at c0 c1 c2 c3 d0 d1 x0 x1
    go_wp2
    obtain ⟨j1,j2,j3⟩:=six hT hM hB (.int .i64 4) (.string ⟨x.toArray⟩) (.int .i64 0) (.int .i64 0) (.int .i64 0) (.int .i64 0)
    exact bodyPost_ret (out16 j1 j2 rfl rfl) rfl ⟨j3,by rw [HW.out];rfl⟩
   ·have hp':=eq_false_of_ne_true hp
    rw [hp']
    have HW:Hid (R=firstOf (signs.drop (k + 1)) (rest r 0)):=by show _=_;rw [HQ.out];exact first_miss HX.out hp'
    clear hp hp'
    go_wp2
    exact ⟨⟨k + 1,rfl,by omega,HW,hH,hT,hM,hSr,hB⟩,by simp [intOf];omega⟩
  ·have hl':decide ((k:Int) < 39)=false:=by simp;omega
   have HW:Hid (R=.bad 20 0):=by show _=_;rw [HQ.out];exact first_end (by rw [signs_len];omega)
   clear HQ
   have c0:=hT.cell 0
   have c1:=hT.cell 1
   have c2:=hT.cell 2
   have c3:=hT.cell 3
   have d0:=hM.cell 0
   have d1:=hM.cell 1
   have f0:=hT.free 0
   have f1:=hT.free 1
   have f2:=hT.free 2
   have f3:=hT.free 3
   have g0:=hM.free 0
   have g1:=hM.free 1
   have x0:=hSr.cell 0
   have x1:=hSr.cell 1
   simp at c0 c1 c2 c3 d0 d1 x0 x1
   go_wp2_with (first | (go_at_call 131;refine (lexLetter _ (UInt8.toNat_lt _) _).mono ?_;rintro e w1 ⟨rfl,rfl⟩) | (go_at_call 134;refine (lexDigit _ _).mono ?_;rintro e w1 ⟨rfl,rfl⟩) | fail)
   refine (wordBad 20 i _).mono ?_
   rintro e w2 ⟨rfl,hb2⟩
   clear c0 c1 c2 c3 d0 d1 f0 f1 f2 f3 g0 g1 x0 x1
   replace hT:=hT.belowAll hb2
   replace hM:=hM.belowAll hb2
   replace hSr:=hSr.belowAll hb2
   replace hB:=hB.trans (hb2.mono hB.size)
   have c0:=hT.cell 0
   have c1:=hT.cell 1
   have c2:=hT.cell 2
   have c3:=hT.cell 3
   have d0:=hM.cell 0
   have d1:=hM.cell 1
   have f0:=hT.free 0
   have f1:=hT.free 1
   have f2:=hT.free 2
   have f3:=hT.free 3
   have g0:=hM.free 0
   have g1:=hM.free 1
   have x0:=hSr.cell 0
   have x1:=hSr.cell 1
   simp at c0 c1 c2 c3 d0 d1 x0 x1
   unfold tok mish
   go_wp2
   obtain ⟨j1,j2,j3⟩:=six hT hM hB (.int .i64 0) (.string ⟨#[]⟩) (.int .i64 0) (.int .i64 0) (.int .i64 (20:Nat)) (.int .i64 (i:Nat))
   exact bodyPost_ret (out16 j1 j2 rfl rfl) rfl ⟨j3,by rw [HW.out];rfl⟩

theorem rest_zero (s:ByteArray):rest s 0=s.data.toList:=by simp [rest]
theorem rest_extract (s:ByteArray) (i:Nat):rest (s.extract i s.size) 0=rest s i:=by rw [rest_zero,rest_bytes]

/-- The walk of the scanner's word. -/
theorem lexWord (s:ByteArray) (i X:Nat) (m:Int) (hi:i < s.size) (hs:s.size ≤ 65536) (w:World) (hX:1 < X) (hS:Holds w X 134 [.string s,.int .i64 i])
  (hm:w.cell? ⟨1,0,none⟩=some (.int .i64 m)) (h1:1 < w.heap.size) (htab:Lib.TabIs Tryz.prog w "strings.asciiSpace" .u8 Lib.asciiSpaceTab):
  Calls Tryz.prog 101 #[.pointer (some ⟨X,0,none⟩)] w (LTokPost i (word 0 (rest s i)) w):=by
 rw [← rest_extract]
 have hz:0 < (s.extract i s.size).size:=by rw [ByteArray.size_extract];omega
 by_cases hL:ltr (s.extract i s.size)[0].toNat=true
 ·exact lexWordL s _ i X m hi hs rfl hz w hX hS hm h1 hL
 ·have hL':=eq_false_of_ne_true hL
  by_cases hD:dig (s.extract i s.size)[0].toNat=true
  ·exact lexWordD s _ i X m hi hs rfl hz w hX hS hm h1 hL' hD
  ·have hD':=eq_false_of_ne_true hD
   by_cases hq:((s.extract i s.size)[0] == 34)=true
   ·exact lexWordQ s _ i X m hi hs rfl hz w hX hS hm h1 hL' hD' hq
   ·exact lexWordS s _ i X m hi hs rfl hz w hX hS hm h1 htab hL' hD' (eq_false_of_ne_true hq)
end Go.Proofs.YtpoghableadkcaaGreatDoor
end
section
/- The walk of lex.Tokens. -/
namespace Go.Proofs.YtpoghableadkcaaGreatDoor
open Go.RowKit
set_option linter.unusedVariables false

/-- A word,read from a place further on. -/
def shW (i:Nat):Res (Tk × Nat)→Res (Tk × Nat)
 | .ok (t,n)=>.ok (⟨t.kind,t.text,t.num,i + t.at_⟩,i + n)
 | .bad c a=>.bad c (i + a)
def shQ (i:Nat):Res (Bs × Nat)→Res (Bs × Nat)
 | .ok (b,n)=>.ok (b,i + n)
 | .bad c a=>.bad c (i + a)

theorem quo_shift (d:Nat):∀ (l acc:Bs) (i:Nat),quo (d + i) acc l=shQ d (quo i acc l)
 | [],acc,i=>by simp [quo,shQ]
 | [c],acc,i=>by
  unfold quo
  repeat' split
  all_goals simp [shQ]
  all_goals omega
 | c :: e :: r,acc,i=>by
  unfold quo
  split
  ·simp [shQ];omega
  ·split
   ·simp [shQ]
   ·split
    ·split
     ·have:=quo_shift d r (acc ++ [‹UInt8›]) (i + 2)
      rw [← this,Nat.add_assoc]
     ·simp [shQ]
    ·have:=quo_shift d (e :: r) (acc ++ [c]) (i + 1)
     rw [← this,Nat.add_assoc]

theorem sign_shift (d i:Nat):∀ l:Bs,sign (d + i) l=shW d (sign i l)
 | []=>by simp [sign,shW]
 | [c]=>by rw [sign,sign];split <;> simp [shW,Nat.add_assoc]
 | c :: e :: r=>by
  rw [sign,sign]
  split
  ·simp [shW,Nat.add_assoc]
  ·split <;> simp [shW,Nat.add_assoc]

theorem word_shift (d i:Nat) (l:Bs):word (d + i) l=shW d (word i l):=by
 cases l with
 | nil=>simp [word,shW]
 | cons c r=>
  unfold word
  simp only
  split
  ·split <;> simp [shW,Nat.add_assoc]
  ·split
   ·split <;> simp [shW,Nat.add_assoc]
   ·split
    ·have:=quo_shift d r [] (i + 1)
     rw [← Nat.add_assoc] at this
     rw [this]
     cases quo (i + 1) [] r with
     | bad x y=>simp [shQ,shW]
     | ok q=>simp [shQ,shW]
    ·exact sign_shift d i (c :: r)

theorem out10 {w:World} {tmps:Array Value} {h:Nat} {x y:Value} (hK:Holds w h 26 [x,y]) (h3:tmps[3]?.getD undef=.pointer (some ⟨h,0,none⟩)):
  (results Tryz.f47 tmps).run Tryz.prog w=.ok (.tuple #[tmps.getD 2 undef,.agg #[x,y]]) w:=by
 have d0:=hK.cell 0
 have d1:=hK.cell 1
 simp at d0 d1
 simp [results,Tryz.results47,h3,go_sem,d0,d1]

set_option maxHeartbeats 4000000 in
set_option maxRecDepth 100000 in
theorem lexTokens (s:ByteArray) (m:Int) (w:World) (hm:w.cell? ⟨1,0,none⟩=some (.int .i64 m)) (h1:1 < w.heap.size) (htab:Lib.TabIs Tryz.prog w "strings.asciiSpace" .u8 Lib.asciiSpaceTab):
  Calls Tryz.prog 47 #[.string s] w (TokensPost 93 (tokensOf s) w):=by
 by_cases hbig:65536 < s.size
 ·have hR:tokensOf s=.bad 2 0:=if_pos hbig
  rw [hR]
  go_enter Tryz.func47,Tryz.ntmps47
  go_wp2
  go_step3
  go_wp2
  rw [Exit.noGoto_ret]
  exact bodyPost_ret (out10 (Holds.new w 26 #[.int .i64 2,.int .i64 0]) rfl) rfl ⟨(Below.refl _ _).alloc (Nat.le_refl _) _,by omega,rfl⟩
 ·have hs:s.size ≤ 65536:=by omega
  have hbig':decide ((65536:Int) < (s.size:Int))=false:=by simp;omega
  obtain ⟨R,hR⟩:∃ R,R=tk 0 (rest s 0):=⟨_,rfl⟩
  have hR':tokensOf s=R:=(if_neg hbig).trans hR.symm
  rw [hR']
  have HR:=Lib.hid hR
  clear hR hR'
  go_enter Tryz.func47,Tryz.ntmps47
  go_wp2
  go_step3
  go_wp2
  go_step3
  go_wp2
  go_loopw [5] (fun v wr=>∃ (i:Nat) (acc:List Tk),i ≤ s.size∧acc.length ≤ i∧Hid (R=prep acc (tk i (rest s i)))∧wr.ownsRow w.heap.size 93 4 v acc.length (flatT acc)∧Holds wr w.heap.size 26 [.int .i64 0,.int .i64 0]∧Holds wr (w.heap.size + 1) 134 [.string s,.int .i64 i]∧Below w.heap.size w wr) (fun _ wr=>(s.size + 10 - intOf ((wr.cell? ⟨w.heap.size + 1,1,none⟩).getD undef)).toNat)
  case atStart=>
   refine ⟨0,[],by omega,by simp,(show _=_ by rw [HR.out,prep_nil]),⟨rfl,.inl ⟨rfl,rfl⟩⟩,(Holds.new w _ _).alloc _,?_,((Below.refl _ _).alloc (Nat.le_refl _) _).alloc (by simp) _⟩
   have:=Holds.new (w.alloc (.cells #[.int .i64 0,.int .i64 0] 26)) 134 #[.string s,.int .i64 0]
   simpa using this
  case round=>
   obtain ⟨i,acc,hi,hai,HI,hown,hM,hS,hB⟩:=hrel
   have hX1:1 < w.heap.size + 1:=by omega
   have hmr:=(Holds.same (hB.block 1 h1) 0).trans hm
   have hszr:=hB.size
   go_wp2_with (fail)
   refine (lexBlanks s i (w.heap.size + 1) m hi hs _ hX1 hS hmr (by omega)).mono ?_
   rintro e w2 ⟨hF,hp⟩
   have hM2:=hF.holds hM (by omega)
   have hB2:=hB.trans (hF.to_below hB.size (fun k hk=>by omega))
   have hown2:=hF.owns hown (fun g hg he=>owns_ne_holds hown hS (by decide) (by rw [hg,he]))
   cases hbl:blank false i (rest s i) with
   | bad c a=>
    rw [hbl] at hp
    simp only at hp
    subst hp
    have hc:=blank_code _ _ _ _ _ hbl
    subst hc
    have HQ:=Lib.hid (tk_bad hbl)
    clear hbl
    have hMa:=hM2.alloc (.cells #[.int .i64 21,.int .i64 (a:Nat)] 26)
    have hBa:=hB2.alloc hB2.size (.cells #[.int .i64 21,.int .i64 (a:Nat)] 26)
    have d0:=hMa.cell 0
    have d1:=hMa.cell 1
    have g0:=hMa.free 0
    have g1:=hMa.free 1
    simp at d0 d1
    unfold mish
    go_wp2
    go_region
    go_wp2
    rw [Exit.noGoto_ret]
    exact bodyPost_ret (out10 ((hMa.put 0 _).put 1 _).drew rfl) rfl ⟨((hBa.setCell (Nat.le_refl _) _).setCell (Nat.le_refl _) _).drew,by rw [HI.out,HQ.out];exact ⟨by omega,rfl⟩⟩
   | ok k=>
    rw [hbl] at hp
    simp only at hp
    obtain ⟨rfl,hS2⟩:=hp
    unfold mish
    have hk1:=blank_ge _ _ _ _ hbl
    rw [rest_len] at hk1
    have hMa:=hM2.alloc (.cells #[.int .i64 0,.int .i64 0] 26)
    have hSa:=hS2.alloc (.cells #[.int .i64 0,.int .i64 0] 26)
    have hBa:=hB2.alloc hB2.size (.cells #[.int .i64 0,.int .i64 0] 26)
    have d0:=hMa.cell 0
    have d1:=hMa.cell 1
    have g0:=hMa.free 0
    have g1:=hMa.free 1
    have x1:=hSa.cell 1
    simp at d0 d1 x1
    have hmr2:=(Holds.same (hBa.block 1 h1) 0).trans hm
    have htr:=tab_same htab (hBa.block 0 (Nat.lt_trans Nat.zero_lt_one h1))
    have hsz2:=hBa.size
    by_cases hk:k < s.size
    ·have hk':((k:Int) == (s.size:Int))=false:=by simp;omega
     go_wp2_with (fail)
     refine (lexWord s k (w.heap.size + 1) m hk hs _ hX1 hSa hmr2 (by omega) htr).mono ?_
     rintro e w3 ⟨hb3,hp⟩
     clear d0 d1 g0 g1 x1 htr hmr2
     have hM3:=hMa.belowAll hb3
     have hS3:=hSa.belowAll hb3
     have hB3:=hBa.trans (hb3.mono hBa.size)
     have hown3:=(Fr.of_below hb3 (fun _=>False)).owns (hown2.alloc (.cells #[.int .i64 0,.int .i64 0] 26)) (fun _ _ h=>h)
     have hsh:=word_shift k 0 (rest s k)
     rw [Nat.add_zero] at hsh
     have hlt3:=hM3.lt
     have hltX:=hS3.lt
     cases hw:word 0 (rest s k) with
     | bad c a=>
      rw [hw] at hp hsh
      simp only at hp
      subst hp
      have hc:=word_code hw
      have hc':((c:Int) != 0)=true:=by simp;omega
      have HQ:=Lib.hid (tk_wbad hbl hk hsh)
      clear hbl hw hsh
      have hM4:=(hM3.alloc (.cells #[.int .i64 0,.string ⟨#[]⟩,.int .i64 0,.int .i64 0] 93)).alloc (.cells #[.int .i64 (c:Nat),.int .i64 ((k:Int) + (a:Int))] 26)
      have hB4:=(hB3.alloc hB3.size (.cells #[.int .i64 0,.string ⟨#[]⟩,.int .i64 0,.int .i64 0] 93)).alloc (by simp;omega) (.cells #[.int .i64 (c:Nat),.int .i64 ((k:Int) + (a:Int))] 26)
      have d0:=hM4.cell 0
      have d1:=hM4.cell 1
      have g0:=hM4.free 0
      have g1:=hM4.free 1
      simp at d0 d1
      clear hlt3 hltX
      unfold tok mish
      go_wp2
      go_region
      go_wp2
      refine bodyPost_ret (out10 ((hM4.put 0 _).put 1 _).drew rfl) rfl ⟨?_,?_⟩
      ·exact ((hB4.setCell (Nat.le_refl _) _).setCell (Nat.le_refl _) _).drew
      ·rw [HI.out,HQ.out]
       exact ⟨hc,by rw [← mish_add];rfl⟩
     | ok r=>
      obtain ⟨t0,n0⟩:=r
      rw [hw] at hp hsh
      simp only at hp
      subst hp
      have hat:=word_at hw
      have hn:=word_ge hw
      rw [rest_len] at hn
      have hsh':word k (rest s k)=.ok (⟨t0.kind,t0.text,t0.num,k⟩,k + n0):=by rw [hsh];simp [shW,hat]
      have HQ:=Lib.hid (tk_step hbl hk hsh')
      clear hbl hw hsh hsh'
      have hS4:=(hS3.alloc (.cells #[.int .i64 (t0.kind:Nat),.string ⟨t0.text.toArray⟩,.int .i64 (t0.num:Nat),.int .i64 0] 93)).alloc (.cells #[.int .i64 0,.int .i64 0] 26)
      have x1:=hS4.cell 1
      have y1:=hS4.free 1
      simp at x1
      obtain ⟨W,hW⟩:∃ W,W=(w3.alloc (.cells #[.int .i64 (t0.kind:Nat),.string ⟨t0.text.toArray⟩,.int .i64 (t0.num:Nat),.int .i64 k] 93)).alloc (.cells #[.int .i64 0,.int .i64 0] 26):=⟨_,rfl⟩
      have hWs:W.heap.size=w3.heap.size + 2:=by rw [hW];simp
      have hownW:W.ownsRow w.heap.size 93 4 u5 acc.length (flatT acc):=by rw [hW];exact (hown3.alloc _).alloc _
      have hMW:Holds W w.heap.size 26 [.int .i64 0,.int .i64 0]:=by rw [hW];exact (hM3.alloc _).alloc _
      have hSW:Holds W (w.heap.size + 1) 134 [.string s,.int .i64 k]:=by rw [hW];exact (hS3.alloc _).alloc _
      have hBW:Below w.heap.size w W:=by rw [hW];exact (hB3.alloc hB3.size _).alloc (by simp;omega) _
      have HW:=Lib.hid hW
      clear hW
      have hcs:tkCells ⟨t0.kind,t0.text,t0.num,k⟩=[.int .i64 (t0.kind:Nat),.string ⟨t0.text.toArray⟩,.int .i64 (t0.num:Nat),.int .i64 k]:=rfl
      unfold tok mish
      obtain ⟨i0,hi0,hz0,hz1,hz2⟩:=info_parts Tryz.info93
      go_wp2_with (at_builtin;refine wpList_append_own_at _ rfl (.tmp 45) (.tmp 47) _ rfl w.heap.size 93 i0 _ 4 40 Tryz.underlying61 hi0 hz0 hz1 hz2 rfl (by omega) u5 acc.length (flatT acc) rfl (show World.ownsRow (((w3.alloc (.cells #[.int .i64 (t0.kind:Nat),.string ⟨t0.text.toArray⟩,.int .i64 (t0.num:Nat),.int .i64 k] 93)).alloc (.cells #[.int .i64 0,.int .i64 0] 26)).alloc (.cells #[.int .i64 (t0.kind:Nat),.string ⟨t0.text.toArray⟩,.int .i64 (t0.num:Nat),.int .i64 k] 93)) _ _ _ _ _ _ by rw [← HW.out];exact hownW.alloc _) ⟨w3.heap.size + 1 + 1,0,none⟩ 1 1 (tkCells ⟨t0.kind,t0.text,t0.num,k⟩) rfl rfl ?c1 ?c2 ?c3 ?c4 ?c5 ?_)
      case c1=>exact cells_of_new _ _ (by simp) (tkCells ⟨t0.kind,t0.text,t0.num,k⟩) 93
      case c2=>simp [tkCells,Value.oneCell']
      case c3=>unfold maxLen;omega
      case c4=>omega
      case c5=>have:=hBW.size;rw [hWs] at this;simp;omega
      intro v' w5 hown5 hgrow _ _
      have hgrow':(W.alloc (.cells (tkCells ⟨t0.kind,t0.text,t0.num,k⟩).toArray 93)).grownBy w5 u5.ownBlock:=by rw [HW.out];exact hgrow
      have hM5:=own_kept (hownW.alloc (.cells (tkCells ⟨t0.kind,t0.text,t0.num,k⟩).toArray 93)) hgrow' (hMW.alloc _) (by decide)
      have hS5:=own_kept (hownW.alloc (.cells (tkCells ⟨t0.kind,t0.text,t0.num,k⟩).toArray 93)) hgrow' (hSW.alloc _) (by decide)
      have hB5:=below_own (hBW.alloc hBW.size (.cells (tkCells ⟨t0.kind,t0.text,t0.num,k⟩).toArray 93)) (hownW.alloc _) hgrow'
      clear x1 y1 hgrow hgrow'
      have x5:=hS5.cell 1
      have y5:=hS5.free 1
      simp at x5
      have hlen:(acc ++ [(⟨t0.kind,t0.text,t0.num,k⟩:Tk)]).length=acc.length + 1:=by simp
      have hown6:w5.ownsRow w.heap.size 93 4 v' (acc ++ [(⟨t0.kind,t0.text,t0.num,k⟩:Tk)]).length (flatT (acc ++ [⟨t0.kind,t0.text,t0.num,k⟩])):=by rw [hlen,← flatT_app];exact hown5
      go_wp2
      refine ⟨⟨k + n0,acc ++ [⟨t0.kind,t0.text,t0.num,k⟩],by omega,by rw [hlen];omega,(show _=_ by rw [HI.out,HQ.out,prep_prep]),own_put hown6 hS5 (by decide),hM5.far (by show ¬ w.heap.size=w.heap.size + 1;omega) _,(hS5.put 1 _).to (by simp),hB5.setCell (by simp) _⟩,?_⟩
      rw [(hS5.put 1 _).cell 1,hS.cell 1]
      simp [intOf]
      omega
    ·have HQ:=Lib.hid (tk_end hbl (by omega))
     have hk':((k:Int) == (s.size:Int))=true:=by simp;omega
     clear hbl
     go_wp2
     first | rw [Exit.noGoto_ret] | skip
     exact bodyPost_ret (out10 ((hMa.put 0 _).put 1 _) rfl) rfl ⟨(hBa.setCell (Nat.le_refl _) _).setCell (Nat.le_refl _) _,by
      rw [HI.out,HQ.out]
      refine ⟨u5,rfl,?_⟩
      simp only [List.append_nil]
      exact own_put (own_put (hown2.alloc _) hMa (by decide)) (hMa.put 0 _) (by decide)⟩
end Go.Proofs.YtpoghableadkcaaGreatDoor
end
section
/- Plain laws of the lexer: no program in sight. -/
namespace Go.Proofs.YtpoghableadkcaaGreatDoor
set_option linter.unusedVariables false

/-- Read from a place further on. -/
def shB (d:Nat):Res Nat→Res Nat
 | .ok k=>.ok (d + k)
 | .bad c a=>.bad c (d + a)
def shT (d:Nat) (t:Tk):Tk:=⟨t.kind,t.text,t.num,d + t.at_⟩
def shR (d:Nat):Res (List Tk)→Res (List Tk)
 | .ok ts=>.ok (ts.map (shT d))
 | .bad c a=>.bad c (d + a)

theorem blank_shift (d:Nat):∀ (l:Bs) (m:Bool) (i:Nat),blank m (d + i) l=shB d (blank m i l)
 | [],m,i=>by cases m <;> simp [blank,shB]
 | [c],m,i=>by
  unfold blank
  repeat' split
  all_goals simp [shB,Nat.add_assoc]
 | c :: e :: r,m,i=>by
  rw [blank,blank]
  have h1:=blank_shift d r false (i + 2)
  have h2:=blank_shift d (e :: r) true (i + 1)
  have h3:=blank_shift d r true (i + 2)
  have h4:=blank_shift d (e :: r) false (i + 1)
  simp only [← Nat.add_assoc] at h1 h2 h3 h4
  repeat' split
  all_goals first | assumption | simp [shB]

theorem tk_shift_ (d:Nat):∀ (n i:Nat) (l:Bs),l.length < n→tk (d + i) l=shR d (tk i l)
 | 0,_,_,h=>by omega
 | n + 1,i,l,hn=>by
  rw [tk_eq (d + i),tk_eq i,blank_shift]
  cases hb:blank false i l with
  | bad c a=>rfl
  | ok k=>
   have h1:=blank_ge _ _ _ _ hb
   simp only [shB]
   rw [show d + k - (d + i)=k - i by omega]
   cases hd:l.drop (k - i) with
   | nil=>rfl
   | cons c r=>
    simp only
    rw [word_shift]
    cases hw:word k (c :: r) with
    | bad x y=>rfl
    | ok q=>
     obtain ⟨t,m⟩:=q
     have h2:=word_ge hw
     have h3:(c :: r).length=l.length - (k - i):=by rw [← hd,List.length_drop]
     simp only [shW]
     rw [show d + m - (d + k)=m - k by omega,tk_shift_ d n m _ (by rw [List.length_drop];omega)]
     cases tk m ((c :: r).drop (m - k)) with
     | bad x y=>rfl
     | ok ts=>simp [shR,shT]
theorem tk_shift (d i:Nat) (l:Bs):tk (d + i) l=shR d (tk i l):=tk_shift_ d (l.length + 1) i l (Nat.lt_succ_self _)

theorem tk_skip {i j:Nat} {l:Bs} (hij:i ≤ j) (h:blank false i l=blank false j (l.drop (j - i))):tk i l=tk j (l.drop (j - i)):=by
 rw [tk_eq i,tk_eq j,h]
 cases hb:blank false j (l.drop (j - i)) with
 | bad c a=>rfl
 | ok k=>
  have h1:=blank_ge _ _ _ _ hb
  simp only
  rw [List.drop_drop,show j - i + (k - j)=k - i by omega]

theorem blank_one {b:UInt8} (hb:isBl b=true) (i:Nat) (r:Bs):blank false i (b :: r)=blank false (i + 1) r:=by
 cases r with
 | nil=>simp [blank,hb]
 | cons d r=>
  have h47:(b == 47)=false:=by
   cases hh:b == 47 with
   | false=>rfl
   | true=>rw [eq_of_beq hh] at hb;cases hb
  rw [blank,if_neg (by decide),if_neg (by simp [h47]),if_pos hb]

theorem bl_not_star {b:UInt8} (hb:isBl b=true):(b == 42)=false:=by
 cases hh:b == 42 with
 | false=>rfl
 | true=>rw [eq_of_beq hh] at hb;cases hb

theorem blank_ext {b:UInt8} (hb:isBl b=true) (s:Bs):∀ (l:Bs) (m:Bool) (i k:Nat),blank m i l=.ok k→blank m i (l ++ b :: s)=if k < i + l.length then .ok k else blank false (k + 1) s
 | [],m,i,k,h=>by
  cases m <;> simp [blank] at h
  subst h
  simp [blank_one hb]
 | [c],m,i,k,h=>by
  cases m <;> simp [blank] at h
  rw [List.cons_append,List.nil_append,blank,if_neg (by decide),if_neg (by simp [bl_not_star hb])]
  by_cases hc:isBl c=true
  ·rw [if_pos hc] at h ⊢
   injection h with h
   subst h
   rw [if_neg (by simp),blank_one hb]
  ·rw [if_neg hc] at h ⊢
   injection h with h
   subst h
   rw [if_pos (by simp)]
 | c :: d :: r,m,i,k,h=>by
  rw [List.cons_append,List.cons_append,blank]
  rw [blank] at h
  have e1:∀ j,j + r.length + 2=j + (c :: d :: r).length:=by intro j;simp;omega
  cases m
  ·rw [if_neg (by decide)] at h ⊢
   by_cases h1:(c == 47 && d == 42)=true
   ·rw [if_pos h1] at h ⊢
    rw [blank_ext hb s r _ _ _ h]
    simp only [List.length_cons,show i + 2 + r.length=i + (r.length + 1 + 1) by omega]
   ·rw [if_neg h1] at h ⊢
    by_cases h2:isBl c=true
    ·rw [if_pos h2] at h ⊢
     have:=blank_ext hb s (d :: r) _ _ _ h
     rw [List.cons_append] at this
     rw [this]
     simp only [List.length_cons,show i + 1 + (r.length + 1)=i + (r.length + 1 + 1) by omega]
    ·rw [if_neg h2] at h ⊢
     injection h with h
     subst h
     rw [if_pos (by simp)]
  ·rw [if_pos rfl] at h ⊢
   by_cases h1:(c == 42 && d == 47)=true
   ·rw [if_pos h1] at h ⊢
    rw [blank_ext hb s r _ _ _ h]
    simp only [List.length_cons,show i + 2 + r.length=i + (r.length + 1 + 1) by omega]
   ·rw [if_neg h1] at h ⊢
    have:=blank_ext hb s (d :: r) _ _ _ h
    rw [List.cons_append] at this
    rw [this]
    simp only [List.length_cons,show i + 1 + (r.length + 1)=i + (r.length + 1 + 1) by omega]

theorem bl_plain {b:UInt8} (hb:isBl b=true):lod b=false∧isDig b=false∧ltr b.toNat=false:=by
 have:∀ n:Fin 256,isBl (UInt8.ofNat n.val)=true→lod (UInt8.ofNat n.val)=false∧isDig (UInt8.ofNat n.val)=false∧ltr (UInt8.ofNat n.val).toNat=false:=by decide +kernel
 have h:=this ⟨b.toNat,b.toNat_lt⟩
 simpa [hb] using h
theorem bl_twos {b:UInt8} (hb:isBl b=true) (c:UInt8):twos.contains [c,b]=false:=by
 cases hc:twos.contains [c,b] with
 | false=>rfl
 | true=>
  have h:∀ x ∈ twos,x.all (fun y=>!isBl y)=true:=by decide +kernel
  have:=h _ (List.elem_iff.1 hc)
  simp [hb] at this

theorem tw_ext (p:UInt8→Bool) {b:UInt8} (hb:p b=false) (s:Bs):∀ l:Bs,(l ++ b :: s).takeWhile p=l.takeWhile p
 | []=>by simp [hb]
 | c :: l=>by
  rw [List.cons_append,List.takeWhile_cons,List.takeWhile_cons,tw_ext p hb s l]

theorem quo_ext (s:Bs):∀ (l acc:Bs) (i:Nat) (q:Bs × Nat),quo i acc l=.ok q→quo i acc (l ++ s)=.ok q
 | [],acc,i,q,h=>by simp [quo] at h
 | [c],acc,i,q,h=>by
  unfold quo at h
  split at h
  ·rename_i hc
   cases s with
   | nil=>rw [List.append_nil,quo,if_pos hc];exact h
   | cons d s=>rw [List.cons_append,List.nil_append,quo,if_pos hc];exact h
  ·repeat (split at h;· cases h)
   cases h
 | c :: d :: r,acc,i,q,h=>by
  rw [List.cons_append,List.cons_append,quo]
  rw [quo] at h
  split at h
  ·rename_i hc;rw [if_pos hc];exact h
  ·rename_i hc;rw [if_neg hc]
   split at h
   ·cases h
   ·rename_i hv;rw [if_neg hv]
    split at h
    ·rename_i h92;rw [if_pos h92]
     cases he:esc d with
     | none=>rw [he] at h;cases h
     | some x=>rw [he] at h;simp only at h ⊢;exact quo_ext s r _ _ _ h
    ·rename_i h92;rw [if_neg h92]
     have:=quo_ext s (d :: r) _ _ _ h
     rw [List.cons_append] at this
     exact this

theorem word_ext {b:UInt8} (hb:isBl b=true) (s:Bs) {c:UInt8} {l:Bs} {i:Nat} {q:Tk × Nat} (h:word i (c :: l)=.ok q):word i (c :: l ++ b :: s)=.ok q:=by
 obtain ⟨hb1,hb2,hb3⟩:=bl_plain hb
 have e1:=tw_ext lod hb1 s (c :: l)
 have e2:=tw_ext isDig hb2 s (c :: l)
 have t1:((c :: l) ++ b :: s).take ((c :: l).takeWhile lod).length=(c :: l).take ((c :: l).takeWhile lod).length:=List.take_append_of_le_length (takeWhile_len _ _)
 have t2:((c :: l) ++ b :: s).take ((c :: l).takeWhile isDig).length=(c :: l).take ((c :: l).takeWhile isDig).length:=List.take_append_of_le_length (takeWhile_len _ _)
 have t3:(((c :: l) ++ b :: s).drop ((c :: l).takeWhile isDig).length).head?.any (fun d=>ltr d.toNat)=(((c :: l).drop ((c :: l).takeWhile isDig).length).head?.any fun d=>ltr d.toNat):=by
  rw [List.drop_append_of_le_length (takeWhile_len _ _)]
  cases (c :: l).drop ((c :: l).takeWhile isDig).length with
  | nil=>simp [hb3]
  | cons x y=>rfl
 rw [List.cons_append] at e1 e2 t1 t2 t3 ⊢
 unfold word at h ⊢
 simp only at h ⊢
 rw [e1,e2,t1,t2,t3]
 by_cases h1:ltr c.toNat=true
 ·rw [if_pos h1] at h ⊢;exact h
 ·rw [if_neg h1] at h ⊢
  by_cases h2:isDig c=true
  ·rw [if_pos h2] at h ⊢;exact h
  ·rw [if_neg h2] at h ⊢
   by_cases h3:(c == 34)=true
   ·rw [if_pos h3] at h ⊢
    cases hq:quo (i + 1) [] l with
    | bad x y=>rw [hq] at h;cases h
    | ok q'=>
     rw [quo_ext (b :: s) l _ _ _ hq]
     rw [hq] at h
     exact h
   ·rw [if_neg h3] at h ⊢
    cases l with
    | nil=>
     rw [List.nil_append,sign,if_neg (by rw [bl_twos hb];decide)]
     exact h
    | cons d r=>exact h

theorem tk_ext_ {b:UInt8} (hb:isBl b=true) (s:Bs):∀ (n i:Nat) (l:Bs) (ts:List Tk),l.length < n→tk i l=.ok ts→tk i (l ++ b :: s)=prep ts (tk (i + l.length + 1) s)
 | 0,_,_,_,h,_=>by omega
 | n + 1,i,l,ts,hn,h=>by
  rw [tk_eq] at h
  cases hbl:blank false i l with
  | bad c a=>rw [hbl] at h;cases h
  | ok k=>
   have h1:=blank_ge _ _ _ _ hbl
   have hx:=blank_ext hb s _ _ _ _ hbl
   rw [hbl] at h
   simp only at h
   cases hd:l.drop (k - i) with
   | nil=>
    rw [hd] at h
    injection h with h
    subst h
    have hk:k=i + l.length:=by
     have:=congrArg List.length hd
     simp at this
     omega
    subst hk
    rw [if_neg (by omega)] at hx
    rw [prep_nil]
    have hdr:(l ++ b :: s).drop (i + l.length + 1 - i)=s:=by
     rw [show i + l.length + 1 - i=l.length + 1 by omega,← List.drop_drop,List.drop_left];rfl
    have:=tk_skip (i:=i) (j:=i + l.length + 1) (l:=l ++ b :: s) (by omega) (by rw [hdr];exact hx)
    rw [this,hdr]
   | cons c r=>
    rw [hd] at h
    simp only at h
    have h3:(c :: r).length=l.length - (k - i):=by rw [← hd,List.length_drop]
    have h3':0 < (c :: r).length:=by simp
    rw [if_pos (by omega)] at hx
    have hdr:(l ++ b :: s).drop (k - i)=c :: r ++ b :: s:=by rw [List.drop_append_of_le_length (by omega),hd]
    rw [tk_eq,hx]
    simp only
    rw [hdr]
    cases hw:word k (c :: r) with
    | bad x y=>rw [hw] at h;cases h
    | ok q=>
     obtain ⟨t,m⟩:=q
     have h2:=word_ge hw
     have hwx:=word_ext hb s hw
     rw [List.cons_append] at hwx ⊢
     simp only [hwx]
     rw [hw] at h
     simp only at h
     cases ht:tk m ((c :: r).drop (m - k)) with
     | bad x y=>rw [ht] at h;cases h
     | ok ts'=>
      rw [ht] at h
      injection h with h
      subst h
      have ih:=tk_ext_ hb s n m _ ts' (by rw [List.length_drop];omega) ht
      rw [List.length_drop,← List.drop_append_of_le_length (by omega),List.cons_append] at ih
      rw [ih,show m + ((c :: r).length - (m - k)) + 1=i + l.length + 1 by omega]
      cases tk (i + l.length + 1) s <;> rfl
theorem tk_ext {b:UInt8} (hb:isBl b=true) (s:Bs) {i:Nat} {l:Bs} {ts:List Tk} (h:tk i l=.ok ts):tk i (l ++ b :: s)=prep ts (tk (i + l.length + 1) s):=
 tk_ext_ hb s (l.length + 1) i l ts (Nat.lt_succ_self _) h

/-- Two texts,one behind the other. -/
theorem tk_joins {a b:Bs} {xs ys:List Tk} (ha:tk 0 a=.ok xs) (hb:tk 0 b=.ok ys):tk 0 (a ++ 10 :: b)=.ok (xs ++ ys.map (shT (a.length + 1))):=by
 rw [tk_ext (by decide) b ha,Nat.zero_add]
 have:=tk_shift (a.length + 1) 0 b
 rw [Nat.add_zero] at this
 rw [this,hb];rfl

/-- No end of a remark within. -/
def noClose:Bs→Bool
 | c :: d :: r=>!(c == 42 && d == 47) && noClose (d :: r)
 | _=>true
theorem blank_remark (s:Bs):∀ (l:Bs) (i:Nat),noClose l=true→blank true i (l ++ 32 :: 42 :: 47 :: s)=blank false (i + l.length + 3) s
 | [],i,_=>by
  rw [List.nil_append,blank,if_pos rfl,if_neg (by decide),blank,if_pos rfl,if_pos (by decide)]
  rfl
 | [c],i,_=>by
  rw [List.cons_append,List.nil_append,blank,if_pos rfl,if_neg (by simp),blank,if_pos rfl,if_neg (by decide),blank,if_pos rfl,if_pos (by decide)]
  rfl
 | c :: d :: r,i,h=>by
  rw [noClose,Bool.and_eq_true] at h
  rw [List.cons_append,List.cons_append,blank,if_pos rfl,if_neg (by intro hh;rw [hh] at h;exact absurd h.1 (by decide))]
  have:=blank_remark s (d :: r) (i + 1) h.2
  rw [List.cons_append] at this
  rw [this]
  simp only [List.length_cons]
  rw [show i + 1 + (r.length + 1) + 3=i + (r.length + 1 + 1) + 3 by omega]
theorem tk_remarks {r s:Bs} (h:noClose r=true):tk 0 (47 :: 42 :: (r ++ 32 :: 42 :: 47 :: s))=shR (r.length + 5) (tk 0 s):=by
 have hdr:(47 :: 42 :: (r ++ 32 :: 42 :: 47 :: s):Bs).drop (r.length + 5 - 0)=s:=by
  rw [Nat.sub_zero,show r.length + 5=2 + (r.length + 3) by omega,← List.drop_drop,← List.drop_drop]
  show ((r ++ 32 :: 42 :: 47 :: s).drop r.length).drop 3=s
  rw [List.drop_left];rfl
 have hb:blank false 0 (47 :: 42 :: (r ++ 32 :: 42 :: 47 :: s))=blank false (r.length + 5) s:=by
  rw [blank,if_neg (by decide),if_pos (by decide),blank_remark s r _ h]
  rw [show 0 + 2 + r.length + 3=r.length + 5 by omega]
 have:=tk_skip (i:=0) (j:=r.length + 5) (l:=47 :: 42 :: (r ++ 32 :: 42 :: 47 :: s)) (by omega) (by rw [hdr];exact hb)
 rw [this,hdr]
 exact tk_shift (r.length + 5) 0 s

/-- A number's digits alone. -/
theorem tw_all (p:UInt8→Bool):∀ l:Bs,l.all p=true→l.takeWhile p=l
 | [],_=>rfl
 | c :: l,h=>by
  rw [List.all_cons,Bool.and_eq_true] at h
  rw [List.takeWhile_cons,if_pos h.1,tw_all p l h.2]
theorem tw_take (p:UInt8→Bool) (l:Bs):l.take (l.takeWhile p).length=l.takeWhile p:=by
 induction l with
 | nil=>rfl
 | cons c l ih=>
  rw [List.takeWhile_cons]
  split
  ·rw [List.length_cons,List.take_succ_cons,ih]
  ·rfl
theorem tw_self (p:UInt8→Bool) (l:Bs):(l.takeWhile p).takeWhile p=l.takeWhile p:=tw_all p _ (by
 induction l with
 | nil=>rfl
 | cons c l ih=>
  rw [List.takeWhile_cons]
  split
  ·rename_i h;rw [List.all_cons,h,ih];rfl
  ·rfl)

theorem low_plain (c:UInt8):(ltr c.toNat=true∨isDig c=true∨isOne c.toNat=true)→isBl c=false:=by
 have:∀ n:Fin 256,(ltr (UInt8.ofNat n.val).toNat=true∨isDig (UInt8.ofNat n.val)=true∨isOne (UInt8.ofNat n.val).toNat=true)→isBl (UInt8.ofNat n.val)=false:=by decide +kernel
 have h:=this ⟨c.toNat,c.toNat_lt⟩
 simpa using h
theorem dig_not_ltr (c:UInt8):isDig c=true→ltr c.toNat=false:=by
 have:∀ n:Fin 256,isDig (UInt8.ofNat n.val)=true→ltr (UInt8.ofNat n.val).toNat=false:=by decide +kernel
 have h:=this ⟨c.toNat,c.toNat_lt⟩
 simpa using h
theorem name_not_open (c:UInt8):(ltr c.toNat=true∨isDig c=true)→(c == 47)=false:=by
 have:∀ n:Fin 256,(ltr (UInt8.ofNat n.val).toNat=true∨isDig (UInt8.ofNat n.val)=true)→((UInt8.ofNat n.val) == 47)=false:=by decide +kernel
 have h:=this ⟨c.toNat,c.toNat_lt⟩
 simpa using h

/-- Where no blank and no remark begins. -/
theorem blank_here {c:UInt8} {r:Bs} (i:Nat) (h:isBl c=false) (h':∀ d s,r=d :: s→(c == 47 && d == 42)=false):blank false i (c :: r)=.ok i:=by
 cases r with
 | nil=>simp [blank,h]
 | cons d s=>rw [blank,if_neg (by decide),if_neg (by rw [h' d s rfl];decide),if_neg (by rw [h];decide)]

/-- A text that is one word. -/
theorem tk_one {c:UInt8} {r:Bs} {i:Nat} {t:Tk} (hb:blank false i (c :: r)=.ok i) (hw:word i (c :: r)=.ok (t,i + (c :: r).length)):tk i (c :: r)=.ok [t]:=by
 rw [tk_eq,hb]
 simp only
 rw [show i - i=0 by omega,List.drop_zero]
 simp only [hw]
 rw [show i + (c :: r).length - i=(c :: r).length by omega,List.drop_length,tk_eq]
 simp [blank]
theorem tk_none {c:UInt8} {r:Bs} {i x y:Nat} (hb:blank false i (c :: r)=.ok i) (hw:word i (c :: r)=.bad x y):tk i (c :: r)=.bad x y:=by
 rw [tk_eq,hb]
 simp only
 rw [show i - i=0 by omega,List.drop_zero]
 simp only [hw]

theorem word_digits {c:UInt8} {r:Bs} (h:(c :: r).all isDig=true) (i:Nat):
  word i (c :: r)=if 10 < (c :: r).length || 2147483647 < val 0 (c :: r) then .bad 22 i else .ok (⟨2,c :: r,val 0 (c :: r),i⟩,i + (c :: r).length):=by
 have h1:isDig c=true:=by rw [List.all_cons,Bool.and_eq_true] at h;exact h.1
 have h2:=dig_not_ltr c h1
 unfold word
 simp only [h2,Bool.false_eq_true,if_false,h1,if_true]
 rw [tw_all isDig _ h,List.take_length,List.drop_length]
 simp
theorem tk_digits {l:Bs} (h0:l ≠ []) (h:l.all isDig=true):tk 0 l=if 10 < l.length || 2147483647 < val 0 l then .bad 22 0 else .ok [⟨2,l,val 0 l,0⟩]:=by
 cases l with
 | nil=>exact absurd rfl h0
 | cons c r=>
  have h1:isDig c=true:=by rw [List.all_cons,Bool.and_eq_true] at h;exact h.1
  have hb:=blank_here (r:=r) 0 (low_plain c (.inr (.inl h1))) (fun d s _=>by rw [name_not_open c (.inr h1)];rfl)
  have hw:=word_digits h 0
  by_cases hc:(decide (10 < (c :: r).length) || decide (2147483647 < val 0 (c :: r)))=true
  ·rw [if_pos hc] at hw ⊢
   exact tk_none hb hw
  ·rw [if_neg hc] at hw ⊢
   exact tk_one hb (by rw [Nat.zero_add] at hw ⊢;exact hw)

/-- What a word is but for its place. -/
def key (t:Tk):Nat × Bs × Nat:=(t.kind,t.text,t.num)
/-- The words of a text,each again. -/
theorem word_again {i n:Nat} {c:UInt8} {r:Bs} {t:Tk} (h:word i (c :: r)=.ok (t,n)) (h3:t.kind ≠ 3) (j:Nat):t.text ≠ []∧tk j t.text=.ok [⟨t.kind,t.text,t.num,j⟩]:=by
 unfold word at h
 simp only at h
 by_cases h1:ltr c.toNat=true
 ·rw [if_pos h1,tw_take] at h
  have hl:lod c=true:=by unfold lod;rw [h1];rfl
  have hx:(c :: r).takeWhile lod=c :: r.takeWhile lod:=by rw [List.takeWhile_cons,if_pos hl]
  split at h
  ·cases h
  ·rename_i h32
   injection h with h;injection h with h _
   subst h
   simp only
   rw [hx] at h32 ⊢
   refine ⟨by simp,tk_one (blank_here _ (low_plain c (.inl h1)) fun d s _=>by rw [name_not_open c (.inl h1)];rfl) ?_⟩
   have hs:=tw_self lod (c :: r)
   rw [hx] at hs
   unfold word
   simp only
   rw [if_pos h1,hs,List.take_length,if_neg h32]
 ·rw [if_neg h1] at h
  by_cases h2:isDig c=true
  ·rw [if_pos h2,tw_take] at h
   have hx:(c :: r).takeWhile isDig=c :: r.takeWhile isDig:=by rw [List.takeWhile_cons,if_pos h2]
   split at h
   ·cases h
   ·rename_i hn
    injection h with h;injection h with h _
    subst h
    simp only
    rw [hx] at hn ⊢
    have hs:=tw_self isDig (c :: r)
    have hall:(c :: r.takeWhile isDig).all isDig=true:=by
     rw [← hx,← hs]
     induction (c :: r).takeWhile isDig with
     | nil=>rfl
     | cons a l ih=>rw [List.takeWhile_cons];split <;> simp_all
    refine ⟨by simp,tk_one (blank_here _ (low_plain c (.inr (.inl h2))) fun d s _=>by rw [name_not_open c (.inr h2)];rfl) ?_⟩
    rw [word_digits hall,if_neg]
    simp at hn ⊢
    omega
  ·rw [if_neg h2] at h
   by_cases h34:(c == 34)=true
   ·rw [if_pos h34] at h
    cases hq:quo (i + 1) [] r with
    | bad x y=>rw [hq] at h;cases h
    | ok q=>rw [hq] at h;injection h with h;injection h with h _;subst h;exact absurd rfl h3
   ·rw [if_neg h34] at h
    have one:isOne c.toNat=true→tk j [c]=.ok [⟨4,[c],0,j⟩]:=fun h4=>
     tk_one (blank_here _ (low_plain c (.inr (.inr h4))) fun d s e=>by cases e) (by
      unfold word
      simp only
      rw [if_neg h1,if_neg h2,if_neg h34,sign,if_pos h4]
      rfl)
    cases r with
    | nil=>
     rw [sign] at h
     split at h
     ·rename_i h4
      injection h with h;injection h with h _
      subst h
      exact ⟨by simp,one h4⟩
     ·cases h
    | cons d s=>
     rw [sign] at h
     split at h
     ·rename_i h4
      injection h with h;injection h with h _
      subst h
      refine ⟨by simp,tk_one ?_ ?_⟩
      ·have hall:∀ x ∈ twos,(match x with | a :: b :: _=>isBl a == false && (a == 47 && b == 42) == false | _=>true)=true:=by decide +kernel
       have hx:=hall _ (List.elem_iff.1 h4)
       simp only [Bool.and_eq_true] at hx
       exact blank_here _ (eq_of_beq hx.1) fun d' s' e=>by
        injection e with e1 e2
        subst e1
        exact eq_of_beq hx.2
      ·unfold word
       simp only
       rw [if_neg h1,if_neg h2,if_neg h34,sign,if_pos h4]
       rfl
     ·split at h
      ·rename_i h4
       injection h with h;injection h with h _
       subst h
       exact ⟨by simp,one h4⟩
      ·cases h

theorem tk_words:∀ (n i:Nat) (l:Bs) (ts:List Tk),l.length < n→tk i l=.ok ts→∀ t ∈ ts,∃ k c r m,word k (c :: r)=.ok (t,m)∧(c :: r).length ≤ l.length∧k ≤ i + l.length
 | 0,_,_,_,h,_=>by omega
 | n + 1,i,l,ts,hn,h=>by
  rw [tk_eq] at h
  cases hbl:blank false i l with
  | bad c a=>rw [hbl] at h;cases h
  | ok k=>
   have h1:=blank_ge _ _ _ _ hbl
   rw [hbl] at h
   simp only at h
   cases hd:l.drop (k - i) with
   | nil=>rw [hd] at h;injection h with h;subst h;intro t ht;cases ht
   | cons c r=>
    rw [hd] at h
    simp only at h
    have h3:(c :: r).length=l.length - (k - i):=by rw [← hd,List.length_drop]
    cases hw:word k (c :: r) with
    | bad x y=>rw [hw] at h;cases h
    | ok q=>
     obtain ⟨t,m⟩:=q
     have h2:=word_ge hw
     rw [hw] at h
     simp only at h
     cases ht:tk m ((c :: r).drop (m - k)) with
     | bad x y=>rw [ht] at h;cases h
     | ok ts'=>
      rw [ht] at h
      injection h with h
      subst h
      intro u hu
      rcases List.mem_cons.1 hu with rfl | hu
      ·exact ⟨k,c,r,m,hw,by omega,h1.2⟩
      ·obtain ⟨k',c',r',m',hw',hl',hk'⟩:=tk_words n m _ ts' (by rw [List.length_drop];omega) ht u hu
       rw [List.length_drop] at hl' hk'
       exact ⟨k',c',r',m',hw',by omega,by omega⟩

/-- Words with a blank between each two. -/
def spread:List Bs→Bs
 | []=>[]
 | [x]=>x
 | x :: y :: r=>x ++ 32 :: spread (y :: r)
theorem spread_snoc:∀ (xs:List Bs) (y:Bs),xs ≠ []→spread (xs ++ [y])=spread xs ++ 32 :: y
 | [],_,h=>absurd rfl h
 | [x],y,_=>rfl
 | x :: z :: r,y,_=>by
  have:=spread_snoc (z :: r) y (by simp)
  rw [List.cons_append,List.cons_append,spread,← List.cons_append,this,spread]
  simp
theorem tk_spread_:∀ (ts:List Tk) (j:Nat),(∀ t ∈ ts,∀ j,tk j t.text=.ok [⟨t.kind,t.text,t.num,j⟩])→∃ ys,tk j (spread (ts.map (·.text)))=.ok ys∧ys.map key=ts.map key
 | [],j,_=>⟨[],by rw [tk_eq];simp [spread,blank],rfl⟩
 | [t],j,h=>⟨_,h t (List.mem_cons_self ..) j,rfl⟩
 | t :: u :: r,j,h=>by
  obtain ⟨ys,h1,h2⟩:=tk_spread_ (u :: r) (j + t.text.length + 1) fun x hx=>h x (List.mem_cons_of_mem _ hx)
  have h3:=tk_ext (b:=32) (by decide) (spread ((u :: r).map (·.text))) (h t (List.mem_cons_self ..) j)
  rw [h1] at h3
  exact ⟨_,h3,by simp only [List.cons_append,List.nil_append,List.map_cons] at h2 ⊢;rw [h2];rfl⟩
theorem tk_spread {l:Bs} {ts:List Tk} (h:tk 0 l=.ok ts) (h3:∀ t ∈ ts,t.kind ≠ 3):∃ ys,tk 0 (spread (ts.map (·.text)))=.ok ys∧ys.map key=ts.map key:=
 tk_spread_ ts 0 fun t ht j=>by
  obtain ⟨k,c,r,m,hw,_⟩:=tk_words _ 0 l ts (Nat.lt_succ_self _) h t ht
  exact (word_again hw (h3 t ht) j).2

/-- No word is longer than the text. -/
theorem word_size {i n:Nat} {l:Bs} {t:Tk} (h:word i l=.ok (t,n)) (h3:t.kind ≠ 3):t.text.length ≤ l.length:=by
 unfold word at h
 split at h
 ·cases h
 ·rename_i c r
  simp only at h
  split at h
  ·split at h
   ·cases h
   ·injection h with h;injection h with h _;subst h
    exact List.length_take_le' _ _
  ·split at h
   ·split at h
    ·cases h
    ·injection h with h;injection h with h _;subst h
     exact List.length_take_le' _ _
   ·split at h
    ·split at h
     ·cases h
     ·injection h with h;injection h with h _;subst h;exact absurd rfl h3
    ·cases r with
     | nil=>
      rw [sign] at h
      split at h
      ·injection h with h;injection h with h _;subst h;simp
      ·cases h
     | cons d s=>
      rw [sign] at h
      split at h
      ·injection h with h;injection h with h _;subst h;simp
      ·split at h
       ·injection h with h;injection h with h _;subst h;simp
       ·cases h
theorem tk_size {l:Bs} {ts:List Tk} {i:Nat} (h:tk i l=.ok ts):∀ t ∈ ts,t.kind ≠ 3→t.text.length ≤ l.length:=fun t ht h3=>by
 obtain ⟨k,c,r,m,hw,hl,_⟩:=tk_words _ i l ts (Nat.lt_succ_self _) h t ht
 exact Nat.le_trans (word_size hw h3) hl

/-- No place lies behind the text. -/
theorem tk_place {l:Bs} {ts:List Tk} {i:Nat} (h:tk i l=.ok ts):∀ t ∈ ts,t.at_ ≤ i + l.length:=fun t ht=>by
 obtain ⟨k,c,r,m,hw,_,hk⟩:=tk_words _ i l ts (Nat.lt_succ_self _) h t ht
 rw [word_at hw];exact hk
theorem blank_bad_at:∀ (l:Bs) (m:Bool) (i c a:Nat),blank m i l=.bad c a→a ≤ i + l.length
 | [],m,i,c,a,h=>by cases m <;> simp [blank] at h;simp;omega
 | [x],m,i,c,a,h=>by
  cases m <;> simp [blank] at h
  ·split at h <;> cases h
  ·simp;omega
 | x :: d :: r,m,i,c,a,h=>by
  rw [blank] at h
  simp only [List.length_cons]
  split at h
  ·split at h
   ·have:=blank_bad_at r _ _ _ _ h;omega
   ·have:=blank_bad_at (d :: r) _ _ _ _ h;simp at this;omega
  ·split at h
   ·have:=blank_bad_at r _ _ _ _ h;omega
   ·split at h
    ·have:=blank_bad_at (d :: r) _ _ _ _ h;simp at this;omega
    ·cases h
theorem quo_bad_at:∀ (l acc:Bs) (i c a:Nat),quo i acc l=.bad c a→a ≤ i + l.length
 | [],acc,i,c,a,h=>by simp [quo] at h;simp;omega
 | [x],acc,i,c,a,h=>by
  unfold quo at h
  simp only [List.length_cons,List.length_nil]
  split at h
  ·cases h
  ·repeat (split at h;· injection h with h h';omega)
   injection h with h h';omega
 | x :: d :: r,acc,i,c,a,h=>by
  rw [quo] at h
  simp only [List.length_cons]
  split at h
  ·cases h
  ·split at h
   ·injection h with h h';omega
   ·split at h
    ·split at h
     ·have:=quo_bad_at r _ _ _ _ h;omega
     ·injection h with h h';omega
    ·have:=quo_bad_at (d :: r) _ _ _ _ h;simp at this;omega
theorem word_bad_at {l:Bs} {i c a:Nat} (h:word i l=.bad c a):a ≤ i + l.length:=by
 unfold word at h
 split at h
 ·injection h with h h';omega
 ·rename_i x r
  simp only at h
  split at h
  ·split at h
   ·injection h with h h';omega
   ·cases h
  ·split at h
   ·split at h
    ·injection h with h h';omega
    ·cases h
   ·split at h
    ·split at h
     ·rename_i p q hq
      have:=quo_bad_at _ _ _ _ _ hq
      injection h with h h'
      simp;omega
     ·cases h
    ·cases r with
     | nil=>
      rw [sign] at h
      split at h
      ·cases h
      ·injection h with h h';omega
     | cons d s=>
      rw [sign] at h
      split at h
      ·cases h
      ·split at h
       ·cases h
       ·injection h with h h';omega
theorem tk_bad_at_:∀ (n i:Nat) (l:Bs) (x y:Nat),l.length < n→tk i l=.bad x y→y ≤ i + l.length
 | 0,_,_,_,_,h,_=>by omega
 | n + 1,i,l,x,y,hn,h=>by
  rw [tk_eq] at h
  cases hbl:blank false i l with
  | bad c a=>
   have:=blank_bad_at _ _ _ _ _ hbl
   rw [hbl] at h
   injection h with h h'
   omega
  | ok k=>
   have h1:=blank_ge _ _ _ _ hbl
   rw [hbl] at h
   simp only at h
   cases hd:l.drop (k - i) with
   | nil=>rw [hd] at h;cases h
   | cons c r=>
    rw [hd] at h
    simp only at h
    have h3:(c :: r).length=l.length - (k - i):=by rw [← hd,List.length_drop]
    cases hw:word k (c :: r) with
    | bad p q=>
     have:=word_bad_at hw
     rw [hw] at h
     injection h with h h'
     omega
    | ok q=>
     obtain ⟨t,m⟩:=q
     have h2:=word_ge hw
     rw [hw] at h
     simp only at h
     cases ht:tk m ((c :: r).drop (m - k)) with
     | ok ts'=>rw [ht] at h;cases h
     | bad p q=>
      have:=tk_bad_at_ n m _ p q (by rw [List.length_drop];omega) ht
      rw [ht] at h
      injection h with h h'
      rw [List.length_drop] at this
      omega
theorem tk_bad_at {i:Nat} {l:Bs} {x y:Nat} (h:tk i l=.bad x y):y ≤ i + l.length:=tk_bad_at_ (l.length + 1) i l x y (Nat.lt_succ_self _) h

end Go.Proofs.YtpoghableadkcaaGreatDoor
end
