/- Quo, RWord, RWordD, RWordS, RTok, joined. -/
import Derived.Test.YtpoghableadkcaaGreatDoorM01
import Derived.Laws.BytesArg
import Derived.StillTailTactics
section
/- Between quotes: laws of the plain reading by places, words for an own row of bytes, and the walk of sextantref02.quoted. -/
namespace Go.Proofs.YtpoghableadkcaaGreatDoor
open Go.RowKit

theorem quo_end {s:ByteArray} {i:Nat} (acc:Bs) (h:s.size=i):quo i acc (rest s i)=.bad 21 s.size:=by rw [rest_end (by omega),h];rfl
theorem quo_close {s:ByteArray} {i:Nat} (acc:Bs) (h:i < s.size) (h1:(s[i] == 34)=true):quo i acc (rest s i)=.ok (acc,i + 1):=by
 rw [rest_cons h]
 by_cases h2:i + 1 < s.size
 ·rw [rest_cons h2,quo];simp [h1]
 ·rw [rest_end (i:=i + 1) (by omega),quo];simp [h1]
theorem quo_bad {s:ByteArray} {i:Nat} (acc:Bs) (h:i < s.size) (h1:(s[i] == 34)=false) (h3:s[i].toNat < 32∨126 < s[i].toNat):quo i acc (rest s i)=.bad 22 i:=by
 have h4:(decide (s[i].toNat < 32) || decide (126 < s[i].toNat))=true:=by simpa using h3
 rw [rest_cons h]
 by_cases h2:i + 1 < s.size
 ·rw [rest_cons h2,quo,if_neg (by simp [h1]),if_pos h4]
 ·rw [rest_end (i:=i + 1) (by omega),quo,if_neg (by simp [h1]),if_pos h4]
theorem quo_step {s:ByteArray} {i:Nat} (acc:Bs) (h:i < s.size) (h1:(s[i] == 34)=false) (h3:¬ (s[i].toNat < 32∨126 < s[i].toNat)) (h5:(s[i] == 92)=false):
  quo i acc (rest s i)=quo (i + 1) (acc ++ [s[i]]) (rest s (i + 1)):=by
 have h4:(decide (s[i].toNat < 32) || decide (126 < s[i].toNat))=false:=by simpa using h3
 rw [rest_cons h]
 by_cases h2:i + 1 < s.size
 ·rw [rest_cons h2,quo,if_neg (by simp [h1]),if_neg (by simp [h4]),if_neg (by simp [h5])]
 ·rw [rest_end (i:=i + 1) (by omega),quo,if_neg (by simp [h1]),if_neg (by simp [h4]),if_neg (by simp [h5])];rfl
theorem quo_esc {s:ByteArray} {i:Nat} (acc:Bs) (x:UInt8) (h:i + 1 < s.size) (h5:(s[i] == 92)=true) (h6:esc s[i + 1]=some x):
  quo i acc (rest s i)=quo (i + 2) (acc ++ [x]) (rest s (i + 2)):=by
 have h7:=eq_of_beq h5
 rw [rest_cons (by omega),rest_cons h,quo,h7,if_neg (by decide),if_neg (by decide),if_pos (by decide),h6]
theorem quo_esc_bad {s:ByteArray} {i:Nat} (acc:Bs) (h:i < s.size) (h5:(s[i] == 92)=true) (h6:∀ h:i + 1 < s.size,esc s[i + 1]=none):
  quo i acc (rest s i)=.bad 22 i:=by
 have h7:=eq_of_beq h5
 rw [rest_cons h]
 by_cases h2:i + 1 < s.size
 ·rw [rest_cons h2,quo,h7,if_neg (by decide),if_neg (by decide),if_pos (by decide),h6 h2]
 ·rw [rest_end (i:=i + 1) (by omega),quo,h7,if_neg (by decide),if_neg (by decide),if_pos (by decide)]

/-- Bytes as cells. -/
def bcells (l:Bs):List Value:=l.map fun c=>Value.int .u8 (c.toNat:Int)
theorem bcells_len (l:Bs):(bcells l).length=l.length:=by simp [bcells]
theorem bcells_app (l:Bs) (c:UInt8):bcells l ++ [Value.int .u8 (c.toNat:Int)]=bcells (l ++ [c]):=by simp [bcells]

theorem below_own {w W w2:World} {e:TypeId} {size n:Nat} {v:Value} {xs:List Value} (hB:Below w.heap.size w W) (ho:W.ownsRow w.heap.size e size v n xs) (hg:W.grownBy w2 v.ownBlock):Below w.heap.size w w2:=by
 refine ⟨hg.os.trans hB.os,hg.tape.trans hB.tape,hg.output.trans hB.output,Nat.le_trans hB.size hg.size,fun k hk=>(hg.block k (Nat.lt_of_lt_of_le hk hB.size) ?_).trans (hB.block k hk)⟩
 intro hv
 rcases ho.2 with ⟨rfl,_⟩ | ⟨g,cap,cur,rfl,hb,_⟩
 ·cases hv
 ·have:k=g:=by simpa [Value.ownBlock] using hv
  omega
theorem own_kept {W w2:World} {base:Nat} {e t:TypeId} {size n g:Nat} {v:Value} {xs cs:List Value} (ho:W.ownsRow base e size v n xs) (hg:W.grownBy w2 v.ownBlock) (hH:Holds W g t cs) (hne:e ≠ t):Holds w2 g t cs:=by
 have hF:Fr (fun k=>v.ownBlock=some k) W w2:=(Fr.refl _ _).grown hg fun k hk _=>hk
 exact hF.holds hH (owns_ne_holds ho hH hne)

/-- A row of bytes of the call's own,made a string. -/
theorem conv_own {w:World} {base n:Nat} {v:Value} {xs:Bs} (h:w.ownsRow base 5 1 v n (bcells xs)):(convert 145 9 v).run Tryz.prog w=.ok (.string ⟨xs.toArray⟩) w:=by
 have hl:xs.length=n:=by have:=h.1;rw [bcells_len] at this;omega
 rcases h.2 with ⟨rfl,h0⟩ | ⟨g,cap,cur,rfl,hb,hg,hnc,hcm,hcs,ht⟩
 ·subst h0
  have:xs=[]:=List.length_eq_zero_iff.1 hl
  subst this
  exact run_convert_bytes_nil w 145 5 Tryz.underlying145 Tryz.underlying5 0 0 9 Tryz.underlying9
 ·have hx:=run_convert_bytes_arg (P:=Tryz.prog) w 145 5 Tryz.underlying145 Tryz.underlying5 g 0 n cap (xs.map fun c=>(c.toNat:Int)) (by simpa using hl) (fun i hi=>by
   have hc:=h.cellAt (g:=g) (j:=i) (by omega)
   rw [Nat.zero_add,hc]
   have hi':i < xs.length:=by omega
   simp [bcells,List.getElem?_eq_getElem hi',List.getD_eq_getElem?_getD]) 9 Tryz.underlying9
  rw [hx]
  have hm:(xs.map fun c=>(c.toNat:Int)).map (fun n=>UInt8.ofNat n.toNat)=xs:=by
   rw [List.map_map]
   refine (List.map_congr_left (g:=id) fun c _=>?_).trans (List.map_id _)
   simp
  simp only [strOfNums,hm]

/-- What quoted answers: k words for the token's struct. -/
def TokPost (R:Res (Tk × Nat)) (w:World) (e:Ending) (w':World):Prop:=
 Below w.heap.size w w'∧match R with
 | .ok (t,k)=>e=.returned (.tuple #[tok t.kind ⟨t.text.toArray⟩ t.num 0,.int .i64 k,mish 0 0])
 | .bad c a=>e=.returned (.tuple #[tok 0 ⟨#[]⟩ 0 0,.int .i64 0,mish c a])
def quoRes (i:Nat):Res (Bs × Nat)→Res (Tk × Nat)
 | .ok (b,k)=>.ok (⟨3,b,0,i⟩,k)
 | .bad x y=>.bad x y

theorem out35 {w:World} {tmps:Array Value} {g h:Nat} {a b c d x y:Value} (hH:Holds w g 75 [a,b,c,d]) (hK:Holds w h 26 [x,y])
  (h4:tmps[4]?.getD undef=.pointer (some ⟨g,0,none⟩)) (h6:tmps[6]?.getD undef=.pointer (some ⟨h,0,none⟩)):
  (results Tryz.f65 tmps).run Tryz.prog w=.ok (.tuple #[.agg #[a,b,c,d],tmps.getD 5 undef,.agg #[x,y]]) w:=by
 have c0:=hH.cell 0
 have c1:=hH.cell 1
 have c2:=hH.cell 2
 have c3:=hH.cell 3
 have d0:=hK.cell 0
 have d1:=hK.cell 1
 simp at c0 c1 c2 c3 d0 d1
 simp [results,Tryz.results65,h4,h6,go_sem,c0,c1,c2,c3,d0,d1]

/-- The two structs that are handed back,written. -/
theorem six {w wr:World} {W:Nat} {t:TypeId} {a b c d x y:Value} (hT:Holds wr W t [a,b,c,d]) (hM:Holds wr (W + 1) 26 [x,y]) (hB:Below W w wr) (a' b' c' d' x' y':Value):
  Holds ((((((wr.setCell ⟨W,0,none⟩ a').setCell ⟨W,1,none⟩ b').setCell ⟨W,2,none⟩ c').setCell ⟨W,3,none⟩ d').setCell ⟨W + 1,0,none⟩ x').setCell ⟨W + 1,1,none⟩ y') W t [a',b',c',d'] ∧
  Holds ((((((wr.setCell ⟨W,0,none⟩ a').setCell ⟨W,1,none⟩ b').setCell ⟨W,2,none⟩ c').setCell ⟨W,3,none⟩ d').setCell ⟨W + 1,0,none⟩ x').setCell ⟨W + 1,1,none⟩ y') (W + 1) 26 [x',y'] ∧
  Below W w ((((((wr.setCell ⟨W,0,none⟩ a').setCell ⟨W,1,none⟩ b').setCell ⟨W,2,none⟩ c').setCell ⟨W,3,none⟩ d').setCell ⟨W + 1,0,none⟩ x').setCell ⟨W + 1,1,none⟩ y'):=by
 refine ⟨?_,?_,?_⟩
 ·exact (((((hT.put 0 a').put 1 b').put 2 c').put 3 d').far (by simp) _).far (by simp) _
 ·exact (((((hM.far (by simp) _).far (by simp) _).far (by simp) _).far (by simp) _).put 0 x').put 1 y'
 ·exact (((((hB.setCell (Nat.le_refl _) _).setCell (Nat.le_refl _) _).setCell (Nat.le_refl _) _).setCell (Nat.le_refl _) _).setCell (Nat.le_succ _) _).setCell (Nat.le_succ _) _

theorem esc_some {c x:UInt8} (h:esc c=some x):(c=110∧x=10)∨(c=116∧x=9)∨(c=92∧x=92)∨(c=34∧x=34):=by
 unfold esc at h
 repeat (split at h;· rename_i h1;injection h with h;subst h;simp [eq_of_beq h1])
 cases h
theorem esc_none {c:UInt8} (h:esc c=none):(c == 110)=false∧(c == 116)=false∧(c == 92)=false∧(c == 34)=false:=by
 unfold esc at h
 repeat (split at h;· cases h)
 simp_all

theorem own_push {w:World} {base:Nat} {v:Value} {acc:Bs} (c:UInt8) (h:w.ownsRow base 5 1 v (acc.length + 1) (bcells acc ++ [Value.int .u8 (c.toNat:Int)])):w.ownsRow base 5 1 v (acc ++ [c]).length (bcells (acc ++ [c])):=by
 have e:(acc ++ [c]).length=acc.length + 1:=by simp
 rw [e,← bcells_app]
 exact h

set_option maxHeartbeats 2000000 in
set_option maxRecDepth 100000 in
theorem refQuoted (s:ByteArray) (i:Nat) (hi:i < s.size) (hs:s.size ≤ 65536) (w:World):
  Calls Tryz.prog 65 #[.string s,.int .i64 (i:Int)] w (TokPost (quoRes i (quo (i + 1) [] (rest s (i + 1)))) w):=by
 obtain ⟨R,hR⟩:∃ R,R=quo (i + 1) [] (rest s (i + 1)):=⟨_,rfl⟩
 rw [← hR]
 have HR:=Lib.hid hR
 clear hR
 go_enter Tryz.func65,Tryz.ntmps65
 go_wp2
 go_loopw [7,8] (fun v n wr=>∃ (k:Nat) (acc:Bs),n=.int .i64 (k:Int)∧k ≤ s.size∧acc.length ≤ k∧Hid (R=quo k acc (rest s k))∧wr.ownsRow w.heap.size 5 1 v acc.length (bcells acc)∧Holds wr w.heap.size 75 [.int .i64 0,.string ⟨#[]⟩,.int .i64 0,.int .i64 0]∧Holds wr (w.heap.size + 1) 26 [.int .i64 0,.int .i64 0]∧Below w.heap.size w wr) (fun _ n _=>(s.size + 10 - intOf n).toNat)
 case atStart=>
  exact ⟨i + 1,[],rfl,by omega,by simp,HR,⟨rfl,.inl ⟨rfl,rfl⟩⟩,(Holds.new w _ _).alloc _,by have:=Holds.new (w.alloc (.cells #[.int .i64 0,.string ⟨#[]⟩,.int .i64 0,.int .i64 0] 75)) 26 #[.int .i64 0,.int .i64 0];simpa using this,((Below.refl _ _).alloc (Nat.le_refl _) _).alloc (by simp) _⟩
 case round=>
  obtain ⟨k,acc,rfl,hk,hak,HK,hown,hT,hM,hB⟩:=hrel
  by_cases hl:k < s.size
  ·by_cases hq:(s[k] == 34)=true
   ·have hq':=(u8i s[k] 34).trans hq
    change ((s[k].toNat:Int) == 34)=true at hq'
    have HQ:=Lib.hid (quo_close acc hl hq)
    clear hq
    have c0:=hT.cell 0
    have c1:=hT.cell 1
    have c2:=hT.cell 2
    have c3:=hT.cell 3
    have d0:=hM.cell 0
    have d1:=hM.cell 1
    have f0:=hT.free 0
    have f1:=hT.free 1
    have f2:=hT.free 2
    have f3:=hT.free 3
    have g0:=hM.free 0
    have g1:=hM.free 1
    simp at c0 c1 c2 c3 d0 d1
    have hcv:=conv_own hown
    go_wp2_with (simp only [hcv])
    obtain ⟨h1,h2,h3⟩:=six hT hM hB (.int .i64 3) (.string ⟨acc.toArray⟩) (.int .i64 0) (.int .i64 0) (.int .i64 0) (.int .i64 0)
    exact bodyPost_ret (out35 h1 h2 rfl rfl) rfl ⟨h3,by rw [HK.out,HQ.out];rfl⟩
   ·have hq1:=eq_false_of_ne_true hq
    have hq':=(u8i s[k] 34).trans hq1
    change ((s[k].toNat:Int) == 34)=false at hq'
    clear hq
    by_cases hv:s[k].toNat < 32∨126 < s[k].toNat
    ·have HQ:=Lib.hid (quo_bad acc hl hq1 hv)
     have hv':(decide ((s[k].toNat:Int) < 32) || decide (126 < (s[k].toNat:Int)))=true:=by simp;omega
     have HE:=Lib.hid hv
     clear hv hq1
     by_cases hv1:(s[k].toNat:Int) < 32
     ·go_wp2_with (fail)
      refine (refBad 22 k _).mono ?_
      rintro e w2 ⟨rfl,hb2⟩
      have hT2:=hT.belowAll hb2
      have hM2:=hM.belowAll hb2
      have hB2:=hB.trans (hb2.mono hB.size)
      have c0:=hT2.cell 0
      have c1:=hT2.cell 1
      have c2:=hT2.cell 2
      have c3:=hT2.cell 3
      have d0:=hM2.cell 0
      have d1:=hM2.cell 1
      have f0:=hT2.free 0
      have f1:=hT2.free 1
      have f2:=hT2.free 2
      have f3:=hT2.free 3
      have g0:=hM2.free 0
      have g1:=hM2.free 1
      simp at c0 c1 c2 c3 d0 d1
      unfold mish
      go_wp2
      obtain ⟨h1,h2,h3⟩:=six hT2 hM2 hB2 (.int .i64 0) (.string ⟨#[]⟩) (.int .i64 0) (.int .i64 0) (.int .i64 22) (.int .i64 (k:Nat))
      exact bodyPost_ret (out35 h1 h2 rfl rfl) rfl ⟨h3,by rw [HK.out,HQ.out];rfl⟩
     ·have hv2:(126:Int) < (s[k].toNat:Int):=by simpa [hv1] using hv'
      have hv3:decide ((s[k].toNat:Int) < 32)=false:=by simp;omega
      go_wp2_with (fail)
      refine (refBad 22 k _).mono ?_
      rintro e w2 ⟨rfl,hb2⟩
      have hT2:=hT.belowAll hb2
      have hM2:=hM.belowAll hb2
      have hB2:=hB.trans (hb2.mono hB.size)
      have c0:=hT2.cell 0
      have c1:=hT2.cell 1
      have c2:=hT2.cell 2
      have c3:=hT2.cell 3
      have d0:=hM2.cell 0
      have d1:=hM2.cell 1
      have f0:=hT2.free 0
      have f1:=hT2.free 1
      have f2:=hT2.free 2
      have f3:=hT2.free 3
      have g0:=hM2.free 0
      have g1:=hM2.free 1
      simp at c0 c1 c2 c3 d0 d1
      unfold mish
      go_wp2
      obtain ⟨h1,h2,h3⟩:=six hT2 hM2 hB2 (.int .i64 0) (.string ⟨#[]⟩) (.int .i64 0) (.int .i64 0) (.int .i64 22) (.int .i64 (k:Nat))
      exact bodyPost_ret (out35 h1 h2 rfl rfl) rfl ⟨h3,by rw [HK.out,HQ.out];rfl⟩
    ·have hv1:decide ((s[k].toNat:Int) < 32)=false:=by simp;omega
     have hv2:decide ((126:Int) < (s[k].toNat:Int))=false:=by simp;omega
     have HV:=Lib.hid hv
     have HQ1:=Lib.hid hq1
     clear hv hq1
     by_cases h92:(s[k] == 92)=true
     ·have h92':=(u8i s[k] 92).trans h92
      change ((s[k].toNat:Int) == 92)=true at h92'
      have H92:=Lib.hid h92
      clear h92
      by_cases hm:k + 1 < s.size
      ·skip
       by_cases hc:(s[k + 1] == 110)=true
       ·have hc':=(u8i s[k + 1] 110).trans hc
        change ((s[k + 1].toNat:Int) == 110)=true at hc'
        have HS:=Lib.hid (quo_esc acc 10 hm H92.out (by rw [eq_of_beq hc];rfl))
        clear hc
        obtain ⟨i0,hi0,hz0,hz1,hz2⟩:=info_parts Tryz.info5
        go_wp2_with (at_builtin;refine wpList_append_own_at _ rfl (.tmp 45) (.tmp 47) _ rfl w.heap.size 5 i0 _ 1 1 Tryz.underlying145 hi0 hz0 hz1 hz2 rfl (by omega) u7 acc.length (bcells acc) rfl (hown.alloc _) ⟨wr.heap.size,0,none⟩ 1 1 [.int .u8 10] rfl rfl ?c1 ?c2 ?c3 ?c4 ?c5 ?_)
        case c1=>exact cell_one_new _ _ _
        case c2=>simp [Value.oneCell']
        case c3=>unfold maxLen;omega
        case c4=>omega
        case c5=>have:=hB.size;simp at this ⊢;omega
        intro v' w2 hown2 hgrow _ _
        have hTa:=own_kept (hown.alloc (.cells #[.int .u8 10] 5)) hgrow (hT.alloc _) (by decide)
        have hMa:=own_kept (hown.alloc (.cells #[.int .u8 10] 5)) hgrow (hM.alloc _) (by decide)
        have hBa:=below_own (hB.alloc hB.size (.cells #[.int .u8 10] 5)) (hown.alloc _) hgrow
        go_wp2
        exact ⟨⟨k + 2,acc ++ [10],rfl,by omega,by simp;omega,(by rw [HK.out];exact HS.out),own_push 10 hown2,hTa,hMa,hBa⟩,by simp [intOf];omega⟩
       ·have hn0:=eq_false_of_ne_true hc
        have hn0':=(u8i s[k + 1] 110).trans hn0
        change ((s[k + 1].toNat:Int) == 110)=false at hn0'
        have HN0:=Lib.hid hn0
        clear hc hn0
        by_cases hc:(s[k + 1] == 116)=true
        ·have hc':=(u8i s[k + 1] 116).trans hc
         change ((s[k + 1].toNat:Int) == 116)=true at hc'
         have HS:=Lib.hid (quo_esc acc 9 hm H92.out (by rw [eq_of_beq hc];rfl))
         clear hc
         obtain ⟨i0,hi0,hz0,hz1,hz2⟩:=info_parts Tryz.info5
         go_wp2_with (at_builtin;refine wpList_append_own_at _ rfl (.tmp 45) (.tmp 47) _ rfl w.heap.size 5 i0 _ 1 1 Tryz.underlying145 hi0 hz0 hz1 hz2 rfl (by omega) u7 acc.length (bcells acc) rfl (hown.alloc _) ⟨wr.heap.size,0,none⟩ 1 1 [.int .u8 9] rfl rfl ?c1 ?c2 ?c3 ?c4 ?c5 ?_)
         case c1=>exact cell_one_new _ _ _
         case c2=>simp [Value.oneCell']
         case c3=>unfold maxLen;omega
         case c4=>omega
         case c5=>have:=hB.size;simp at this ⊢;omega
         intro v' w2 hown2 hgrow _ _
         have hTa:=own_kept (hown.alloc (.cells #[.int .u8 9] 5)) hgrow (hT.alloc _) (by decide)
         have hMa:=own_kept (hown.alloc (.cells #[.int .u8 9] 5)) hgrow (hM.alloc _) (by decide)
         have hBa:=below_own (hB.alloc hB.size (.cells #[.int .u8 9] 5)) (hown.alloc _) hgrow
         go_wp2
         exact ⟨⟨k + 2,acc ++ [9],rfl,by omega,by simp;omega,(by rw [HK.out];exact HS.out),own_push 9 hown2,hTa,hMa,hBa⟩,by simp [intOf];omega⟩
        ·have hn1:=eq_false_of_ne_true hc
         have hn1':=(u8i s[k + 1] 116).trans hn1
         change ((s[k + 1].toNat:Int) == 116)=false at hn1'
         have HN1:=Lib.hid hn1
         clear hc hn1
         by_cases hc:(s[k + 1] == 92)=true
         ·have hc':=(u8i s[k + 1] 92).trans hc
          change ((s[k + 1].toNat:Int) == 92)=true at hc'
          have HS:=Lib.hid (quo_esc acc s[k + 1] hm H92.out (by rw [eq_of_beq hc];rfl))
          clear hc
          obtain ⟨i0,hi0,hz0,hz1,hz2⟩:=info_parts Tryz.info5
          go_wp2_with (at_builtin;refine wpList_append_own_at _ rfl (.tmp 45) (.tmp 47) _ rfl w.heap.size 5 i0 _ 1 1 Tryz.underlying145 hi0 hz0 hz1 hz2 rfl (by omega) u7 acc.length (bcells acc) rfl (hown.alloc _) ⟨wr.heap.size,0,none⟩ 1 1 [.int .u8 (s[k + 1].toNat:Int)] rfl rfl ?c1 ?c2 ?c3 ?c4 ?c5 ?_)
          case c1=>exact cell_one_new _ _ _
          case c2=>simp [Value.oneCell']
          case c3=>unfold maxLen;omega
          case c4=>omega
          case c5=>have:=hB.size;simp at this ⊢;omega
          intro v' w2 hown2 hgrow _ _
          have hTa:=own_kept (hown.alloc (.cells #[.int .u8 (s[k + 1].toNat:Int)] 5)) hgrow (hT.alloc _) (by decide)
          have hMa:=own_kept (hown.alloc (.cells #[.int .u8 (s[k + 1].toNat:Int)] 5)) hgrow (hM.alloc _) (by decide)
          have hBa:=below_own (hB.alloc hB.size (.cells #[.int .u8 (s[k + 1].toNat:Int)] 5)) (hown.alloc _) hgrow
          go_wp2
          exact ⟨⟨k + 2,acc ++ [s[k + 1]],rfl,by omega,by simp;omega,(by rw [HK.out];exact HS.out),own_push s[k + 1] hown2,hTa,hMa,hBa⟩,by simp [intOf];omega⟩
         ·have hn2:=eq_false_of_ne_true hc
          have hn2':=(u8i s[k + 1] 92).trans hn2
          change ((s[k + 1].toNat:Int) == 92)=false at hn2'
          have HN2:=Lib.hid hn2
          clear hc hn2
          by_cases hc:(s[k + 1] == 34)=true
          ·have hc':=(u8i s[k + 1] 34).trans hc
           change ((s[k + 1].toNat:Int) == 34)=true at hc'
           have HS:=Lib.hid (quo_esc acc s[k + 1] hm H92.out (by rw [eq_of_beq hc];rfl))
           clear hc
           obtain ⟨i0,hi0,hz0,hz1,hz2⟩:=info_parts Tryz.info5
           go_wp2_with (at_builtin;refine wpList_append_own_at _ rfl (.tmp 45) (.tmp 47) _ rfl w.heap.size 5 i0 _ 1 1 Tryz.underlying145 hi0 hz0 hz1 hz2 rfl (by omega) u7 acc.length (bcells acc) rfl (hown.alloc _) ⟨wr.heap.size,0,none⟩ 1 1 [.int .u8 (s[k + 1].toNat:Int)] rfl rfl ?c1 ?c2 ?c3 ?c4 ?c5 ?_)
           case c1=>exact cell_one_new _ _ _
           case c2=>simp [Value.oneCell']
           case c3=>unfold maxLen;omega
           case c4=>omega
           case c5=>have:=hB.size;simp at this ⊢;omega
           intro v' w2 hown2 hgrow _ _
           have hTa:=own_kept (hown.alloc (.cells #[.int .u8 (s[k + 1].toNat:Int)] 5)) hgrow (hT.alloc _) (by decide)
           have hMa:=own_kept (hown.alloc (.cells #[.int .u8 (s[k + 1].toNat:Int)] 5)) hgrow (hM.alloc _) (by decide)
           have hBa:=below_own (hB.alloc hB.size (.cells #[.int .u8 (s[k + 1].toNat:Int)] 5)) (hown.alloc _) hgrow
           go_wp2
           exact ⟨⟨k + 2,acc ++ [s[k + 1]],rfl,by omega,by simp;omega,(by rw [HK.out];exact HS.out),own_push s[k + 1] hown2,hTa,hMa,hBa⟩,by simp [intOf];omega⟩
          ·have hn3:=eq_false_of_ne_true hc
           have hn3':=(u8i s[k + 1] 34).trans hn3
           change ((s[k + 1].toNat:Int) == 34)=false at hn3'
           have HN3:=Lib.hid hn3
           clear hc hn3
           have HS:=Lib.hid (quo_esc_bad acc hl H92.out (fun _=>by simp [esc,HN0.out,HN1.out,HN2.out,HN3.out]))
           go_wp2_with (fail)
           refine (refBad 22 k _).mono ?_
           rintro e w2 ⟨rfl,hb2⟩
           have hT2:=hT.belowAll hb2
           have hM2:=hM.belowAll hb2
           have hB2:=hB.trans (hb2.mono hB.size)
           have c0:=hT2.cell 0
           have c1:=hT2.cell 1
           have c2:=hT2.cell 2
           have c3:=hT2.cell 3
           have d0:=hM2.cell 0
           have d1:=hM2.cell 1
           have f0:=hT2.free 0
           have f1:=hT2.free 1
           have f2:=hT2.free 2
           have f3:=hT2.free 3
           have g0:=hM2.free 0
           have g1:=hM2.free 1
           simp at c0 c1 c2 c3 d0 d1
           unfold mish
           go_wp2
           obtain ⟨h1,h2,h3⟩:=six hT2 hM2 hB2 (.int .i64 0) (.string ⟨#[]⟩) (.int .i64 0) (.int .i64 0) (.int .i64 22) (.int .i64 (k:Nat))
           exact bodyPost_ret (out35 h1 h2 rfl rfl) rfl ⟨h3,by rw [HK.out,HS.out];rfl⟩
      ·have hm':decide ((k:Int) + 1 < (s.size:Int))=false:=by simp;omega
       have HS:=Lib.hid (quo_esc_bad acc hl H92.out (fun h=>absurd h hm))
       go_wp2_with (fail)
       refine (refBad 22 k _).mono ?_
       rintro e w2 ⟨rfl,hb2⟩
       have hT2:=hT.belowAll hb2
       have hM2:=hM.belowAll hb2
       have hB2:=hB.trans (hb2.mono hB.size)
       have c0:=hT2.cell 0
       have c1:=hT2.cell 1
       have c2:=hT2.cell 2
       have c3:=hT2.cell 3
       have d0:=hM2.cell 0
       have d1:=hM2.cell 1
       have f0:=hT2.free 0
       have f1:=hT2.free 1
       have f2:=hT2.free 2
       have f3:=hT2.free 3
       have g0:=hM2.free 0
       have g1:=hM2.free 1
       simp at c0 c1 c2 c3 d0 d1
       unfold mish
       go_wp2
       obtain ⟨h1,h2,h3⟩:=six hT2 hM2 hB2 (.int .i64 0) (.string ⟨#[]⟩) (.int .i64 0) (.int .i64 0) (.int .i64 22) (.int .i64 (k:Nat))
       exact bodyPost_ret (out35 h1 h2 rfl rfl) rfl ⟨h3,by rw [HK.out,HS.out];rfl⟩
     ·have h92b:=eq_false_of_ne_true h92
      have h92':=(u8i s[k] 92).trans h92b
      change ((s[k].toNat:Int) == 92)=false at h92'
      have HS:=Lib.hid (quo_step acc hl HQ1.out HV.out h92b)
      clear h92 h92b
      obtain ⟨i0,hi0,hz0,hz1,hz2⟩:=info_parts Tryz.info5
      go_wp2_with (at_builtin;refine wpList_append_own_at _ rfl (.tmp 73) (.tmp 75) _ rfl w.heap.size 5 i0 _ 1 1 Tryz.underlying145 hi0 hz0 hz1 hz2 rfl (by omega) u7 acc.length (bcells acc) rfl (hown.alloc _) ⟨wr.heap.size,0,none⟩ 1 1 [.int .u8 (s[k].toNat:Int)] rfl rfl ?c1 ?c2 ?c3 ?c4 ?c5 ?_)
      case c1=>exact cell_one_new _ _ _
      case c2=>simp [Value.oneCell']
      case c3=>unfold maxLen;omega
      case c4=>omega
      case c5=>have:=hB.size;simp at this ⊢;omega
      intro v' w2 hown2 hgrow _ _
      have hTa:=own_kept (hown.alloc (.cells #[.int .u8 (s[k].toNat:Int)] 5)) hgrow (hT.alloc _) (by decide)
      have hMa:=own_kept (hown.alloc (.cells #[.int .u8 (s[k].toNat:Int)] 5)) hgrow (hM.alloc _) (by decide)
      have hBa:=below_own (hB.alloc hB.size (.cells #[.int .u8 (s[k].toNat:Int)] 5)) (hown.alloc _) hgrow
      go_wp2
      exact ⟨⟨k + 1,acc ++ [s[k]],rfl,by omega,by simp;omega,(by rw [HK.out];exact HS.out),own_push s[k] hown2,hTa,hMa,hBa⟩,by simp [intOf];omega⟩
  ·have hl':decide ((k:Int) < (s.size:Int))=false:=by simp;omega
   have HS:=Lib.hid (quo_end (s:=s) (i:=k) acc (by omega))
   go_wp2_with (fail)
   refine (refBad 21 s.size _).mono ?_
   rintro e w2 ⟨rfl,hb2⟩
   have hT2:=hT.belowAll hb2
   have hM2:=hM.belowAll hb2
   have hB2:=hB.trans (hb2.mono hB.size)
   have c0:=hT2.cell 0
   have c1:=hT2.cell 1
   have c2:=hT2.cell 2
   have c3:=hT2.cell 3
   have d0:=hM2.cell 0
   have d1:=hM2.cell 1
   have f0:=hT2.free 0
   have f1:=hT2.free 1
   have f2:=hT2.free 2
   have f3:=hT2.free 3
   have g0:=hM2.free 0
   have g1:=hM2.free 1
   simp at c0 c1 c2 c3 d0 d1
   unfold mish
   go_wp2
   obtain ⟨h1,h2,h3⟩:=six hT2 hM2 hB2 (.int .i64 0) (.string ⟨#[]⟩) (.int .i64 0) (.int .i64 0) (.int .i64 21) (.int .i64 (s.size:Nat))
   exact bodyPost_ret (out35 h1 h2 rfl rfl) rfl ⟨h3,by rw [HK.out,HS.out];rfl⟩
end Go.Proofs.YtpoghableadkcaaGreatDoor
end
section
/- The walk of sextantref02.word. -/
namespace Go.Proofs.YtpoghableadkcaaGreatDoor
open Go.RowKit

theorem tw_more (p:UInt8→Bool) {s:ByteArray} {k:Nat} (h:k < s.size) (hp:p s[k]=true):((rest s k).takeWhile p).length=((rest s (k + 1)).takeWhile p).length + 1:=by
 rw [rest_cons h,List.takeWhile_cons,if_pos hp];simp
theorem tw_stop (p:UInt8→Bool) {s:ByteArray} {k:Nat} (h:k < s.size) (hp:p s[k]=false):((rest s k).takeWhile p).length=0:=by
 rw [rest_cons h,List.takeWhile_cons,if_neg (by simp [hp])];rfl
theorem tw_end (p:UInt8→Bool) {s:ByteArray} {k:Nat} (h:s.size ≤ k):((rest s k).takeWhile p).length=0:=by
 rw [rest_end h];rfl

/-- A piece of a text. -/
theorem piece (s:ByteArray) (i k:Nat):s.extract i k=⟨((rest s i).take (k - i)).toArray⟩:=by
 apply ByteArray.ext
 rw [ByteArray.data_extract]
 apply Array.ext'
 rw [Array.toList_extract]
 simp [rest,List.take_drop]
 
theorem isIn_of (l:List Bs) (xs:Bs):isIn l ⟨xs.toArray⟩=l.contains xs:=by
 unfold isIn
 rw [List.contains_eq_any_beq,ByteArray.toList_eq]

theorem out19 {w:World} {tmps:Array Value} {g h:Nat} {a b c d x y:Value} (hH:Holds w g 75 [a,b,c,d]) (hK:Holds w h 26 [x,y])
  (h4:tmps[4]?.getD undef=.pointer (some ⟨g,0,none⟩)) (h6:tmps[6]?.getD undef=.pointer (some ⟨h,0,none⟩)):
  (results Tryz.f27 tmps).run Tryz.prog w=.ok (.tuple #[.agg #[a,b,c,d],tmps.getD 5 undef,.agg #[x,y]]) w:=by
 have c0:=hH.cell 0
 have c1:=hH.cell 1
 have c2:=hH.cell 2
 have c3:=hH.cell 3
 have d0:=hK.cell 0
 have d1:=hK.cell 1
 simp at c0 c1 c2 c3 d0 d1
 simp [results,Tryz.results27,h4,h6,go_sem,c0,c1,c2,c3,d0,d1]

theorem word_ltr_bad {s:ByteArray} {i n:Nat} (h:i < s.size) (hL:ltr s[i].toNat=true) (hn:((rest s i).takeWhile lod).length=n) (h32:32 < n):word i (rest s i)=.bad 22 i:=by
 rw [rest_cons h] at hn ⊢
 unfold word
 simp only [hL,if_true,hn,h32]
theorem word_ltr_ok {s:ByteArray} {i n:Nat} (h:i < s.size) (hL:ltr s[i].toNat=true) (hn:((rest s i).takeWhile lod).length=n) (h32:¬ 32 < n):
  word i (rest s i)=.ok (⟨if names.contains ((rest s i).take n) then 4 else 1,(rest s i).take n,0,i⟩,i + n):=by
 rw [rest_cons h] at hn ⊢
 unfold word
 simp only [hL,if_true,hn,h32,if_false]

/-- The structs of the answer as they lie at first. -/
theorem laid34 (w:World) (t:TypeId) (cs ds:Array Value):Holds ((w.alloc (.cells cs t)).alloc (.cells ds 26)) w.heap.size t cs.toList∧Holds ((w.alloc (.cells cs t)).alloc (.cells ds 26)) (w.heap.size + 1) 26 ds.toList ∧
  Below w.heap.size w ((w.alloc (.cells cs t)).alloc (.cells ds 26)):=by
 refine ⟨(Holds.new w _ _).alloc _,?_,((Below.refl _ _).alloc (Nat.le_refl _) _).alloc (by simp) _⟩
 have:=Holds.new (w.alloc (.cells cs t)) 26 ds
 simpa using this

set_option maxHeartbeats 4000000 in
set_option maxRecDepth 100000 in
theorem refWordL (s:ByteArray) (i:Nat) (hi:i < s.size) (hs:s.size ≤ 65536) (w:World) (hL:ltr s[i].toNat=true):
  Calls Tryz.prog 27 #[.string s,.int .i64 (i:Int)] w (TokPost (word i (rest s i)) w):=by
 obtain ⟨R,hR⟩:∃ R,R=word i (rest s i):=⟨_,rfl⟩
 rw [← hR]
 have HR:=Lib.hid hR
 clear hR
 go_enter Tryz.func27,Tryz.ntmps27
 go_wp2_with (fail)
 refine (refLetter _ _).mono ?_
 rintro e w1 ⟨rfl,rfl⟩
 go_wp2_with (fail)
 go_loopw [8] (fun n wr=>∃ k:Nat,n=.int .i64 (k:Int)∧i < k + 1∧k ≤ s.size∧Hid (((rest s i).takeWhile lod).length=(k - i) + ((rest s k).takeWhile lod).length)∧Holds wr w.heap.size 75 [.int .i64 0,.string ⟨#[]⟩,.int .i64 0,.int .i64 0]∧Holds wr (w.heap.size + 1) 26 [.int .i64 0,.int .i64 0]∧Below w.heap.size w wr) (fun n _=>(s.size + 10 - intOf n).toNat)
 case atStart=>
  obtain ⟨h1,h2,h3⟩:=laid34 w 75 #[.int .i64 0,.string ⟨#[]⟩,.int .i64 0,.int .i64 0] #[.int .i64 0,.int .i64 0]
  exact ⟨i,rfl,by omega,by omega,(show _=_ by simp),h1,h2,h3⟩
 case round=>
  obtain ⟨k,rfl,hik,hk,HK,hT,hM,hB⟩:=hrel
  by_cases hl:k < s.size
  ·by_cases h1:ltr s[k].toNat=true
   ·have HS:=Lib.hid (tw_more lod hl (by unfold lod;rw [h1];rfl))
    go_wp2_with (first | (go_at_call 62;refine (refLetter _ _).mono ?_;rintro e w1 ⟨rfl,rfl⟩) | (go_at_call 63;refine (refDigit _ _).mono ?_;rintro e w1 ⟨rfl,rfl⟩))
    exact ⟨⟨k + 1,rfl,by omega,by omega,(show _=_ by rw [HK.out,HS.out];omega),hT,hM,hB⟩,by simp [intOf];omega⟩
   ·have h1':=eq_false_of_ne_true h1
    clear h1
    by_cases h2:dig s[k].toNat=true
    ·have HS:=Lib.hid (tw_more lod hl (by unfold lod;rw [h2];simp))
     go_wp2_with (first | (go_at_call 62;refine (refLetter _ _).mono ?_;rintro e w1 ⟨rfl,rfl⟩) | (go_at_call 63;refine (refDigit _ _).mono ?_;rintro e w1 ⟨rfl,rfl⟩))
     exact ⟨⟨k + 1,rfl,by omega,by omega,(show _=_ by rw [HK.out,HS.out];omega),hT,hM,hB⟩,by simp [intOf];omega⟩
    ·have h2':=eq_false_of_ne_true h2
     clear h2
     have HS:=Lib.hid (tw_stop lod hl (by unfold lod;rw [h1',h2'];rfl))
     have HN:Hid (((rest s i).takeWhile lod).length=k - i):=by
      have:=HK.out
      rw [HS.out] at this
      exact this
     by_cases h32:32 < k - i
     ·have HQ:=Lib.hid (word_ltr_bad hi hL HN.out h32)
      have h32':(32:Int) < (k:Int) - (i:Int):=by omega
      go_wp2_with ((first | (go_at_call 62;refine (refLetter _ _).mono ?_;rintro e w1 ⟨rfl,rfl⟩) | (go_at_call 63;refine (refDigit _ _).mono ?_;rintro e w1 ⟨rfl,rfl⟩) | fail))
      refine (refBad 22 i _).mono ?_
      rintro e w2 ⟨rfl,hb2⟩
      have hT2:=hT.belowAll hb2
      have hM2:=hM.belowAll hb2
      have hB2:=hB.trans (hb2.mono hB.size)
      have c0:=hT2.cell 0
      have c1:=hT2.cell 1
      have c2:=hT2.cell 2
      have c3:=hT2.cell 3
      have d0:=hM2.cell 0
      have d1:=hM2.cell 1
      have f0:=hT2.free 0
      have f1:=hT2.free 1
      have f2:=hT2.free 2
      have f3:=hT2.free 3
      have g0:=hM2.free 0
      have g1:=hM2.free 1
      simp at c0 c1 c2 c3 d0 d1
      unfold mish
      go_wp2
      obtain ⟨h1,h2,h3⟩:=six hT2 hM2 hB2 (.int .i64 0) (.string ⟨#[]⟩) (.int .i64 0) (.int .i64 0) (.int .i64 22) (.int .i64 (i:Nat))
      exact bodyPost_ret (out19 h1 h2 rfl rfl) rfl ⟨h3,by rw [HR.out,HQ.out];rfl⟩
     ·have HQ:=Lib.hid (word_ltr_ok hi hL HN.out h32)
      have h32':decide ((32:Int) < (k:Int) - (i:Int))=false:=by simp;omega
      have hp:=piece s i k
      have hin:=isIn_of names ((rest s i).take (k - i))
      rw [← hp] at hin
      have HP:=Lib.hid hp
      have HI:=Lib.hid hin
      clear hp hin
      have c0:=hT.cell 0
      have c1:=hT.cell 1
      have c2:=hT.cell 2
      have c3:=hT.cell 3
      have d0:=hM.cell 0
      have d1:=hM.cell 1
      have f0:=hT.free 0
      have f1:=hT.free 1
      have f2:=hT.free 2
      have f3:=hT.free 3
      have g0:=hM.free 0
      have g1:=hM.free 1
      simp at c0 c1 c2 c3 d0 d1
      by_cases hnm:isIn names (s.extract i k)=true
      ·skip
       go_wp2_with (first | (go_at_call 64;refine (refName _ _).mono ?_;rintro e w1 ⟨rfl,rfl⟩) | (go_at_call 62;refine (refLetter _ _).mono ?_;rintro e w1 ⟨rfl,rfl⟩) | (go_at_call 63;refine (refDigit _ _).mono ?_;rintro e w1 ⟨rfl,rfl⟩))
       obtain ⟨h1,h2,h3⟩:=six hT hM hB (.int .i64 4) (.string (s.extract i k)) (.int .i64 0) (.int .i64 0) (.int .i64 0) (.int .i64 0)
       exact bodyPost_ret (out19 h1 h2 rfl rfl) rfl ⟨h3,by
        rw [HR.out,HQ.out,← HI.out,hnm,HP.out]
        have e:i + (k - i)=k:=by omega
        simp [e,tok,mish]⟩
      ·have hnm':=eq_false_of_ne_true hnm
       go_wp2_with (first | (go_at_call 64;refine (refName _ _).mono ?_;rintro e w1 ⟨rfl,rfl⟩) | (go_at_call 62;refine (refLetter _ _).mono ?_;rintro e w1 ⟨rfl,rfl⟩) | (go_at_call 63;refine (refDigit _ _).mono ?_;rintro e w1 ⟨rfl,rfl⟩))
       obtain ⟨h1,h2,h3⟩:=six hT hM hB (.int .i64 1) (.string (s.extract i k)) (.int .i64 0) (.int .i64 0) (.int .i64 0) (.int .i64 0)
       exact bodyPost_ret (out19 h1 h2 rfl rfl) rfl ⟨h3,by
        rw [HR.out,HQ.out,← HI.out,hnm',HP.out]
        have e:i + (k - i)=k:=by omega
        simp [e,tok,mish]⟩
  ·have hl':decide ((k:Int) < (s.size:Int))=false:=by simp;omega
   have HS:=Lib.hid (tw_end lod (s:=s) (k:=k) (by omega))
   have HN:Hid (((rest s i).takeWhile lod).length=k - i):=by
    have:=HK.out
    rw [HS.out] at this
    exact this
   by_cases h32:32 < k - i
   ·have HQ:=Lib.hid (word_ltr_bad hi hL HN.out h32)
    have h32':(32:Int) < (k:Int) - (i:Int):=by omega
    go_wp2_with ((first | (go_at_call 62;refine (refLetter _ _).mono ?_;rintro e w1 ⟨rfl,rfl⟩) | (go_at_call 63;refine (refDigit _ _).mono ?_;rintro e w1 ⟨rfl,rfl⟩) | fail))
    refine (refBad 22 i _).mono ?_
    rintro e w2 ⟨rfl,hb2⟩
    have hT2:=hT.belowAll hb2
    have hM2:=hM.belowAll hb2
    have hB2:=hB.trans (hb2.mono hB.size)
    have c0:=hT2.cell 0
    have c1:=hT2.cell 1
    have c2:=hT2.cell 2
    have c3:=hT2.cell 3
    have d0:=hM2.cell 0
    have d1:=hM2.cell 1
    have f0:=hT2.free 0
    have f1:=hT2.free 1
    have f2:=hT2.free 2
    have f3:=hT2.free 3
    have g0:=hM2.free 0
    have g1:=hM2.free 1
    simp at c0 c1 c2 c3 d0 d1
    unfold mish
    go_wp2
    obtain ⟨h1,h2,h3⟩:=six hT2 hM2 hB2 (.int .i64 0) (.string ⟨#[]⟩) (.int .i64 0) (.int .i64 0) (.int .i64 22) (.int .i64 (i:Nat))
    exact bodyPost_ret (out19 h1 h2 rfl rfl) rfl ⟨h3,by rw [HR.out,HQ.out];rfl⟩
   ·have HQ:=Lib.hid (word_ltr_ok hi hL HN.out h32)
    have h32':decide ((32:Int) < (k:Int) - (i:Int))=false:=by simp;omega
    have hp:=piece s i k
    have hin:=isIn_of names ((rest s i).take (k - i))
    rw [← hp] at hin
    have HP:=Lib.hid hp
    have HI:=Lib.hid hin
    clear hp hin
    have c0:=hT.cell 0
    have c1:=hT.cell 1
    have c2:=hT.cell 2
    have c3:=hT.cell 3
    have d0:=hM.cell 0
    have d1:=hM.cell 1
    have f0:=hT.free 0
    have f1:=hT.free 1
    have f2:=hT.free 2
    have f3:=hT.free 3
    have g0:=hM.free 0
    have g1:=hM.free 1
    simp at c0 c1 c2 c3 d0 d1
    by_cases hnm:isIn names (s.extract i k)=true
    ·skip
     go_wp2_with (first | (go_at_call 64;refine (refName _ _).mono ?_;rintro e w1 ⟨rfl,rfl⟩) | (go_at_call 62;refine (refLetter _ _).mono ?_;rintro e w1 ⟨rfl,rfl⟩) | (go_at_call 63;refine (refDigit _ _).mono ?_;rintro e w1 ⟨rfl,rfl⟩))
     obtain ⟨h1,h2,h3⟩:=six hT hM hB (.int .i64 4) (.string (s.extract i k)) (.int .i64 0) (.int .i64 0) (.int .i64 0) (.int .i64 0)
     exact bodyPost_ret (out19 h1 h2 rfl rfl) rfl ⟨h3,by
      rw [HR.out,HQ.out,← HI.out,hnm,HP.out]
      have e:i + (k - i)=k:=by omega
      simp [e,tok,mish]⟩
    ·have hnm':=eq_false_of_ne_true hnm
     go_wp2_with (first | (go_at_call 64;refine (refName _ _).mono ?_;rintro e w1 ⟨rfl,rfl⟩) | (go_at_call 62;refine (refLetter _ _).mono ?_;rintro e w1 ⟨rfl,rfl⟩) | (go_at_call 63;refine (refDigit _ _).mono ?_;rintro e w1 ⟨rfl,rfl⟩))
     obtain ⟨h1,h2,h3⟩:=six hT hM hB (.int .i64 1) (.string (s.extract i k)) (.int .i64 0) (.int .i64 0) (.int .i64 0) (.int .i64 0)
     exact bodyPost_ret (out19 h1 h2 rfl rfl) rfl ⟨h3,by
      rw [HR.out,HQ.out,← HI.out,hnm',HP.out]
      have e:i + (k - i)=k:=by omega
      simp [e,tok,mish]⟩

end Go.Proofs.YtpoghableadkcaaGreatDoor
end
section
/- The walk of sextantref02.word where a number begins. -/
namespace Go.Proofs.YtpoghableadkcaaGreatDoor
open Go.RowKit

theorem val_app (xs:Bs) (v:Nat) (c:UInt8):val v (xs ++ [c])=10 * val v xs + (c.toNat - 48):=by
 unfold val
 rw [List.foldl_append]
 rfl
theorem take_next {s:ByteArray} {i k:Nat} (hik:i ≤ k) (hk:k < s.size):(rest s i).take (k + 1 - i)=(rest s i).take (k - i) ++ [s[k]]:=by
 have e:k + 1 - i=(k - i) + 1:=by omega
 have hl:k - i < (rest s i).length:=by unfold rest;rw [List.length_drop];simp;omega
 rw [e,List.take_add_one,List.getElem?_eq_getElem hl]
 have:(rest s i)[k - i]?=some s[k]:=by
  unfold rest
  rw [List.getElem?_drop,show i + (k - i)=k by omega]
  exact List.getElem?_eq_getElem (by simpa using hk)
 rw [List.getElem?_eq_getElem hl] at this
 rw [this];rfl
theorem rest_drop (s:ByteArray) (i n:Nat):(rest s i).drop n=rest s (i + n):=by unfold rest;rw [List.drop_drop]
theorem pow_ten {V m d:Nat} (h:V < 10 ^ m) (hd:d ≤ 9):10 * V + d < 10 ^ (m + 1):=by rw [Nat.pow_succ];omega

theorem word_dig {s:ByteArray} {i n:Nat} (h:i < s.size) (hL:ltr s[i].toNat=false) (hD:dig s[i].toNat=true) (hn:((rest s i).takeWhile isDig).length=n):
  word i (rest s i)=if 10 < n || 2147483647 < val 0 ((rest s i).take n) || ((rest s (i + n)).head?.any fun d=>ltr d.toNat) then .bad 22 i else .ok (⟨2,(rest s i).take n,val 0 ((rest s i).take n),i⟩,i + n):=by
 rw [← rest_drop]
 rw [rest_cons h] at hn ⊢
 unfold word
 simp only [hL,Bool.false_eq_true,if_false,isDig,hD,if_true]
 rw [hn]
theorem head_at {s:ByteArray} {k:Nat} (h:k < s.size):((rest s k).head?.any fun d=>ltr d.toNat)=ltr s[k].toNat:=by rw [rest_cons h];rfl
theorem head_end {s:ByteArray} {k:Nat} (h:s.size ≤ k):((rest s k).head?.any fun d=>ltr d.toNat)=false:=by rw [rest_end h];rfl
set_option maxHeartbeats 4000000 in
set_option maxRecDepth 100000 in
theorem refWordD (s:ByteArray) (i:Nat) (hi:i < s.size) (hs:s.size ≤ 65536) (w:World) (hL:ltr s[i].toNat=false) (hD:dig s[i].toNat=true):
  Calls Tryz.prog 27 #[.string s,.int .i64 (i:Int)] w (TokPost (word i (rest s i)) w):=by
 obtain ⟨R,hR⟩:∃ R,R=word i (rest s i):=⟨_,rfl⟩
 rw [← hR]
 have HR:=Lib.hid hR
 clear hR
 go_enter Tryz.func27,Tryz.ntmps27
 go_wp2_with (fail)
 refine (refLetter _ _).mono ?_
 rintro e w1 ⟨rfl,rfl⟩
 go_wp2_with (fail)
 refine (refDigit _ _).mono ?_
 rintro e w1 ⟨rfl,rfl⟩
 go_wp2_with (fail)
 go_loopw [8,10] (fun n x wr=>∃ k V:Nat,n=.int .i64 (k:Int)∧x=.int .i64 (V:Int)∧i < k + 1∧k ≤ s.size∧Hid (((rest s i).takeWhile isDig).length=(k - i) + ((rest s k).takeWhile isDig).length)∧Hid (V=val 0 ((rest s i).take (min (k - i) 10)))∧Hid (V < 10 ^ min (k - i) 10)∧V < 10000000000∧Holds wr w.heap.size 75 [.int .i64 0,.string ⟨#[]⟩,.int .i64 0,.int .i64 0]∧Holds wr (w.heap.size + 1) 26 [.int .i64 0,.int .i64 0]∧Below w.heap.size w wr) (fun n _ _=>(s.size + 10 - intOf n).toNat)
 case atStart=>
  obtain ⟨h1,h2,h3⟩:=laid34 w 75 #[.int .i64 0,.string ⟨#[]⟩,.int .i64 0,.int .i64 0] #[.int .i64 0,.int .i64 0]
  exact ⟨i,0,rfl,rfl,by omega,by omega,(show _=_ by simp),(show _=_ by simp [val]),(show _ < _ by simp),by omega,h1,h2,h3⟩
 case round=>
  obtain ⟨k,V,rfl,rfl,hik,hk,HK,HV,HB,hV,hT,hM,hB⟩:=hrel
  by_cases hl:k < s.size
  ·by_cases h1:dig s[k].toNat=true
   ·have HS:=Lib.hid (tw_more isDig hl h1)
    have hd1:48 ≤ (s[k].toNat:Int):=by unfold dig at h1;simp at h1;omega
    have hd2:(s[k].toNat:Int) ≤ 57:=by unfold dig at h1;simp at h1;omega
    by_cases h10:k - i < 10
    ·have h10':(k:Int) - (i:Int) < 10:=by omega
     have hm:min (k - i) 10=k - i:=by omega
     rw [hm] at HV HB
     have hm':min (k + 1 - i) 10=k + 1 - i:=by omega
     have HX:Hid (10 * V + (s[k].toNat - 48)=val 0 ((rest s i).take (min (k + 1 - i) 10))):=by
      show _=_
      rw [hm',take_next (by omega) hl,val_app,← HV.out]
     have HY:Hid (10 * V + (s[k].toNat - 48) < 10 ^ min (k + 1 - i) 10):=by
      show _ < _
      have e:k + 1 - i=(k - i) + 1:=by omega
      rw [hm',e]
      exact pow_ten HB.out (by omega)
     have hz:10 * V + (s[k].toNat - 48) < 10000000000:=Nat.lt_of_lt_of_le HY.out (Nat.le_trans (Nat.pow_le_pow_right (by omega) (Nat.min_le_right _ 10)) (by decide))
     go_wp2_with (first | (go_at_call 62;refine (refLetter _ _).mono ?_;rintro e w1 ⟨rfl,rfl⟩) | (go_at_call 63;refine (refDigit _ _).mono ?_;rintro e w1 ⟨rfl,rfl⟩))
     exact ⟨⟨k + 1,10 * V + (s[k].toNat - 48),rfl,congrArg (Value.int .i64) (by omega),by omega,by omega,(show _=_ by rw [HK.out,HS.out];omega),HX,HY,hz,hT,hM,hB⟩,by simp [intOf];omega⟩
    ·have h10':decide ((k:Int) - (i:Int) < 10)=false:=by simp;omega
     have hm:min (k + 1 - i) 10=min (k - i) 10:=by omega
     go_wp2_with (first | (go_at_call 62;refine (refLetter _ _).mono ?_;rintro e w1 ⟨rfl,rfl⟩) | (go_at_call 63;refine (refDigit _ _).mono ?_;rintro e w1 ⟨rfl,rfl⟩))
     exact ⟨⟨k + 1,V,rfl,rfl,by omega,by omega,(show _=_ by rw [HK.out,HS.out];omega),(by rw [hm];exact HV),(by rw [hm];exact HB),hV,hT,hM,hB⟩,by simp [intOf];omega⟩
   ·have h1':=eq_false_of_ne_true h1
    clear h1
    have HS:=Lib.hid (tw_stop isDig hl h1')
    have HN:Hid (((rest s i).takeWhile isDig).length=k - i):=by
     have:=HK.out
     rw [HS.out] at this
     exact this
    have HW:=Lib.hid (word_dig hi hL hD HN.out)
    have e:i + (k - i)=k:=by omega
    by_cases h10:10 < k - i
    ·have HQ:Hid (word i (rest s i)=.bad 22 i):=by
      show _=_
      rw [HW.out,if_pos (by simp [h10])]
     have h10':(10:Int) < (k:Int) - (i:Int):=by omega
     go_wp2_with ((first | (go_at_call 62;refine (refLetter _ _).mono ?_;rintro e w1 ⟨rfl,rfl⟩) | (go_at_call 63;refine (refDigit _ _).mono ?_;rintro e w1 ⟨rfl,rfl⟩) | fail))
     refine (refBad 22 i _).mono ?_
     rintro e w2 ⟨rfl,hb2⟩
     have hT2:=hT.belowAll hb2
     have hM2:=hM.belowAll hb2
     have hB2:=hB.trans (hb2.mono hB.size)
     have c0:=hT2.cell 0
     have c1:=hT2.cell 1
     have c2:=hT2.cell 2
     have c3:=hT2.cell 3
     have d0:=hM2.cell 0
     have d1:=hM2.cell 1
     have f0:=hT2.free 0
     have f1:=hT2.free 1
     have f2:=hT2.free 2
     have f3:=hT2.free 3
     have g0:=hM2.free 0
     have g1:=hM2.free 1
     simp at c0 c1 c2 c3 d0 d1
     unfold mish
     go_wp2
     obtain ⟨h1,h2,h3⟩:=six hT2 hM2 hB2 (.int .i64 0) (.string ⟨#[]⟩) (.int .i64 0) (.int .i64 0) (.int .i64 22) (.int .i64 (i:Nat))
     exact bodyPost_ret (out19 h1 h2 rfl rfl) rfl ⟨h3,by rw [HR.out,HQ.out];rfl⟩
    ·have hmin:min (k - i) 10=k - i:=by omega
     rw [hmin] at HV HB
     have h10':decide ((10:Int) < (k:Int) - (i:Int))=false:=by simp;omega
     by_cases hbig:2147483647 < V
     ·have HQ:Hid (word i (rest s i)=.bad 22 i):=by
       show _=_
       rw [HW.out,if_pos (by rw [← HV.out];simp [hbig])]
      have hbig':(2147483647:Int) < (V:Int):=by omega
      go_wp2_with ((first | (go_at_call 62;refine (refLetter _ _).mono ?_;rintro e w1 ⟨rfl,rfl⟩) | (go_at_call 63;refine (refDigit _ _).mono ?_;rintro e w1 ⟨rfl,rfl⟩) | fail))
      refine (refBad 22 i _).mono ?_
      rintro e w2 ⟨rfl,hb2⟩
      have hT2:=hT.belowAll hb2
      have hM2:=hM.belowAll hb2
      have hB2:=hB.trans (hb2.mono hB.size)
      have c0:=hT2.cell 0
      have c1:=hT2.cell 1
      have c2:=hT2.cell 2
      have c3:=hT2.cell 3
      have d0:=hM2.cell 0
      have d1:=hM2.cell 1
      have f0:=hT2.free 0
      have f1:=hT2.free 1
      have f2:=hT2.free 2
      have f3:=hT2.free 3
      have g0:=hM2.free 0
      have g1:=hM2.free 1
      simp at c0 c1 c2 c3 d0 d1
      unfold mish
      go_wp2
      obtain ⟨h1,h2,h3⟩:=six hT2 hM2 hB2 (.int .i64 0) (.string ⟨#[]⟩) (.int .i64 0) (.int .i64 0) (.int .i64 22) (.int .i64 (i:Nat))
      exact bodyPost_ret (out19 h1 h2 rfl rfl) rfl ⟨h3,by rw [HR.out,HQ.out];rfl⟩
     ·have hbig':decide ((2147483647:Int) < (V:Int))=false:=by simp;omega
      by_cases hl2:ltr s[k].toNat=true
      ·have HQ:Hid (word i (rest s i)=.bad 22 i):=by
        show _=_
        rw [HW.out,if_pos (by rw [e,head_at hl,hl2];simp)]
       go_wp2_with ((first | (go_at_call 62;refine (refLetter _ _).mono ?_;rintro e w1 ⟨rfl,rfl⟩) | (go_at_call 63;refine (refDigit _ _).mono ?_;rintro e w1 ⟨rfl,rfl⟩) | fail))
       refine (refBad 22 i _).mono ?_
       rintro e w2 ⟨rfl,hb2⟩
       have hT2:=hT.belowAll hb2
       have hM2:=hM.belowAll hb2
       have hB2:=hB.trans (hb2.mono hB.size)
       have c0:=hT2.cell 0
       have c1:=hT2.cell 1
       have c2:=hT2.cell 2
       have c3:=hT2.cell 3
       have d0:=hM2.cell 0
       have d1:=hM2.cell 1
       have f0:=hT2.free 0
       have f1:=hT2.free 1
       have f2:=hT2.free 2
       have f3:=hT2.free 3
       have g0:=hM2.free 0
       have g1:=hM2.free 1
       simp at c0 c1 c2 c3 d0 d1
       unfold mish
       go_wp2
       obtain ⟨h1,h2,h3⟩:=six hT2 hM2 hB2 (.int .i64 0) (.string ⟨#[]⟩) (.int .i64 0) (.int .i64 0) (.int .i64 22) (.int .i64 (i:Nat))
       exact bodyPost_ret (out19 h1 h2 rfl rfl) rfl ⟨h3,by rw [HR.out,HQ.out];rfl⟩
      ·have hl2':=eq_false_of_ne_true hl2
       have HQ:Hid (word i (rest s i)=.ok (⟨2,(rest s i).take (k - i),V,i⟩,k)):=by
        show _=_
        rw [HW.out,if_neg (by rw [← HV.out,e,head_at hl,hl2'];simp;omega),← HV.out,e]
       have hp:=piece s i k
       have HP:=Lib.hid hp
       clear hp
       have c0:=hT.cell 0
       have c1:=hT.cell 1
       have c2:=hT.cell 2
       have c3:=hT.cell 3
       have d0:=hM.cell 0
       have d1:=hM.cell 1
       have f0:=hT.free 0
       have f1:=hT.free 1
       have f2:=hT.free 2
       have f3:=hT.free 3
       have g0:=hM.free 0
       have g1:=hM.free 1
       simp at c0 c1 c2 c3 d0 d1
       go_wp2_with (first | (go_at_call 62;refine (refLetter _ _).mono ?_;rintro e w1 ⟨rfl,rfl⟩) | (go_at_call 63;refine (refDigit _ _).mono ?_;rintro e w1 ⟨rfl,rfl⟩))
       obtain ⟨h1,h2,h3⟩:=six hT hM hB (.int .i64 2) (.string (s.extract i k)) (.int .i64 (V:Nat)) (.int .i64 0) (.int .i64 0) (.int .i64 0)
       exact bodyPost_ret (out19 h1 h2 rfl rfl) rfl ⟨h3,by
        rw [HR.out,HQ.out,HP.out]
        rfl⟩
  ·have hl':decide ((k:Int) < (s.size:Int))=false:=by simp;omega
   have HS:=Lib.hid (tw_end isDig (s:=s) (k:=k) (by omega))
   have HN:Hid (((rest s i).takeWhile isDig).length=k - i):=by
    have:=HK.out
    rw [HS.out] at this
    exact this
   have HW:=Lib.hid (word_dig hi hL hD HN.out)
   have e:i + (k - i)=k:=by omega
   by_cases h10:10 < k - i
   ·have HQ:Hid (word i (rest s i)=.bad 22 i):=by
     show _=_
     rw [HW.out,if_pos (by simp [h10])]
    have h10':(10:Int) < (k:Int) - (i:Int):=by omega
    go_wp2_with ((first | (go_at_call 62;refine (refLetter _ _).mono ?_;rintro e w1 ⟨rfl,rfl⟩) | (go_at_call 63;refine (refDigit _ _).mono ?_;rintro e w1 ⟨rfl,rfl⟩) | fail))
    refine (refBad 22 i _).mono ?_
    rintro e w2 ⟨rfl,hb2⟩
    have hT2:=hT.belowAll hb2
    have hM2:=hM.belowAll hb2
    have hB2:=hB.trans (hb2.mono hB.size)
    have c0:=hT2.cell 0
    have c1:=hT2.cell 1
    have c2:=hT2.cell 2
    have c3:=hT2.cell 3
    have d0:=hM2.cell 0
    have d1:=hM2.cell 1
    have f0:=hT2.free 0
    have f1:=hT2.free 1
    have f2:=hT2.free 2
    have f3:=hT2.free 3
    have g0:=hM2.free 0
    have g1:=hM2.free 1
    simp at c0 c1 c2 c3 d0 d1
    unfold mish
    go_wp2
    obtain ⟨h1,h2,h3⟩:=six hT2 hM2 hB2 (.int .i64 0) (.string ⟨#[]⟩) (.int .i64 0) (.int .i64 0) (.int .i64 22) (.int .i64 (i:Nat))
    exact bodyPost_ret (out19 h1 h2 rfl rfl) rfl ⟨h3,by rw [HR.out,HQ.out];rfl⟩
   ·have hmin:min (k - i) 10=k - i:=by omega
    rw [hmin] at HV HB
    have h10':decide ((10:Int) < (k:Int) - (i:Int))=false:=by simp;omega
    by_cases hbig:2147483647 < V
    ·have HQ:Hid (word i (rest s i)=.bad 22 i):=by
      show _=_
      rw [HW.out,if_pos (by rw [← HV.out];simp [hbig])]
     have hbig':(2147483647:Int) < (V:Int):=by omega
     go_wp2_with ((first | (go_at_call 62;refine (refLetter _ _).mono ?_;rintro e w1 ⟨rfl,rfl⟩) | (go_at_call 63;refine (refDigit _ _).mono ?_;rintro e w1 ⟨rfl,rfl⟩) | fail))
     refine (refBad 22 i _).mono ?_
     rintro e w2 ⟨rfl,hb2⟩
     have hT2:=hT.belowAll hb2
     have hM2:=hM.belowAll hb2
     have hB2:=hB.trans (hb2.mono hB.size)
     have c0:=hT2.cell 0
     have c1:=hT2.cell 1
     have c2:=hT2.cell 2
     have c3:=hT2.cell 3
     have d0:=hM2.cell 0
     have d1:=hM2.cell 1
     have f0:=hT2.free 0
     have f1:=hT2.free 1
     have f2:=hT2.free 2
     have f3:=hT2.free 3
     have g0:=hM2.free 0
     have g1:=hM2.free 1
     simp at c0 c1 c2 c3 d0 d1
     unfold mish
     go_wp2
     obtain ⟨h1,h2,h3⟩:=six hT2 hM2 hB2 (.int .i64 0) (.string ⟨#[]⟩) (.int .i64 0) (.int .i64 0) (.int .i64 22) (.int .i64 (i:Nat))
     exact bodyPost_ret (out19 h1 h2 rfl rfl) rfl ⟨h3,by rw [HR.out,HQ.out];rfl⟩
    ·have hbig':decide ((2147483647:Int) < (V:Int))=false:=by simp;omega
     have HQ:Hid (word i (rest s i)=.ok (⟨2,(rest s i).take (k - i),V,i⟩,k)):=by
      show _=_
      rw [HW.out,if_neg (by rw [← HV.out,e,head_end (by omega)];simp;omega),← HV.out,e]
     have hp:=piece s i k
     have HP:=Lib.hid hp
     clear hp
     have c0:=hT.cell 0
     have c1:=hT.cell 1
     have c2:=hT.cell 2
     have c3:=hT.cell 3
     have d0:=hM.cell 0
     have d1:=hM.cell 1
     have f0:=hT.free 0
     have f1:=hT.free 1
     have f2:=hT.free 2
     have f3:=hT.free 3
     have g0:=hM.free 0
     have g1:=hM.free 1
     simp at c0 c1 c2 c3 d0 d1
     go_wp2_with (first | (go_at_call 62;refine (refLetter _ _).mono ?_;rintro e w1 ⟨rfl,rfl⟩) | (go_at_call 63;refine (refDigit _ _).mono ?_;rintro e w1 ⟨rfl,rfl⟩))
     obtain ⟨h1,h2,h3⟩:=six hT hM hB (.int .i64 2) (.string (s.extract i k)) (.int .i64 (V:Nat)) (.int .i64 0) (.int .i64 0) (.int .i64 0)
     exact bodyPost_ret (out19 h1 h2 rfl rfl) rfl ⟨h3,by
      rw [HR.out,HQ.out,HP.out]
      rfl⟩

end Go.Proofs.YtpoghableadkcaaGreatDoor
end
section
/- The walk of sextantref02.word where other bytes begin, and the three together. -/
namespace Go.Proofs.YtpoghableadkcaaGreatDoor
open Go.RowKit

theorem piece1 {s:ByteArray} {i:Nat} (h:i < s.size):s.extract i (i + 1)=⟨#[s[i]]⟩:=by
 rw [piece,rest_cons h,show i + 1 - i=1 by omega];rfl
theorem piece2 {s:ByteArray} {i:Nat} (h:i + 1 < s.size):s.extract i (i + 2)=⟨#[s[i],s[i + 1]]⟩:=by
 rw [piece,rest_cons (by omega),rest_cons h,show i + 2 - i=2 by omega];rfl
theorem word_other {s:ByteArray} {i:Nat} (h:i < s.size) (hL:ltr s[i].toNat=false) (hD:dig s[i].toNat=false) (hq:(s[i] == 34)=false):word i (rest s i)=sign i (rest s i):=by
 rw [rest_cons h]
 unfold word
 simp only [hL,isDig,hD,hq,Bool.false_eq_true,if_false]
theorem word_quo {s:ByteArray} {i:Nat} (h:i < s.size) (hL:ltr s[i].toNat=false) (hD:dig s[i].toNat=false) (hq:(s[i] == 34)=true):word i (rest s i)=quoRes i (quo (i + 1) [] (rest s (i + 1))):=by
 rw [rest_cons h]
 unfold word
 simp only [hL,isDig,hD,hq,Bool.false_eq_true,if_false,if_true]
 cases quo (i + 1) [] (rest s (i + 1)) with
 | bad x y=>rfl
 | ok a=>rfl
theorem sign_two {s:ByteArray} {i:Nat} (h:i + 1 < s.size) (h2:twos.contains [s[i],s[i + 1]]=true):sign i (rest s i)=.ok (⟨4,[s[i],s[i + 1]],0,i⟩,i + 2):=by
 rw [rest_cons (by omega),rest_cons h,sign,if_pos h2]
theorem sign_one2 {s:ByteArray} {i:Nat} (h:i + 1 < s.size) (h2:twos.contains [s[i],s[i + 1]]=false) (h1:isOne s[i].toNat=true):sign i (rest s i)=.ok (⟨4,[s[i]],0,i⟩,i + 1):=by
 rw [rest_cons (by omega),rest_cons h,sign,if_neg (by rw [h2];decide),if_pos h1]
theorem sign_none2 {s:ByteArray} {i:Nat} (h:i + 1 < s.size) (h2:twos.contains [s[i],s[i + 1]]=false) (h1:isOne s[i].toNat=false):sign i (rest s i)=.bad 20 i:=by
 rw [rest_cons (by omega),rest_cons h,sign,if_neg (by rw [h2];decide),if_neg (by simp [h1])]
theorem sign_one1 {s:ByteArray} {i:Nat} (h:i < s.size) (h':¬ i + 1 < s.size) (h1:isOne s[i].toNat=true):sign i (rest s i)=.ok (⟨4,[s[i]],0,i⟩,i + 1):=by
 rw [rest_cons h,rest_end (i:=i + 1) (by omega),sign,if_pos h1]
theorem sign_none1 {s:ByteArray} {i:Nat} (h:i < s.size) (h':¬ i + 1 < s.size) (h1:isOne s[i].toNat=false):sign i (rest s i)=.bad 20 i:=by
 rw [rest_cons h,rest_end (i:=i + 1) (by omega),sign,if_neg (by simp [h1])]

set_option maxHeartbeats 4000000 in
set_option maxRecDepth 100000 in
theorem refWordQ (s:ByteArray) (i:Nat) (hi:i < s.size) (hs:s.size ≤ 65536) (w:World) (hL:ltr s[i].toNat=false) (hD:dig s[i].toNat=false) (hq:(s[i] == 34)=true):
  Calls Tryz.prog 27 #[.string s,.int .i64 (i:Int)] w (TokPost (word i (rest s i)) w):=by
 rw [word_quo hi hL hD hq]
 have HC:=Lib.hid fun w=>refQuoted s i hi hs w
 generalize quoRes i (quo (i + 1) [] (rest s (i + 1)))=R at *
 have hq':=(u8i s[i] 34).trans hq
 change ((s[i].toNat:Int) == 34)=true at hq'
 clear hq
 obtain ⟨hT,hM,hB⟩:=laid34 w 75 #[.int .i64 0,.string ⟨#[]⟩,.int .i64 0,.int .i64 0] #[.int .i64 0,.int .i64 0]
 go_enter Tryz.func27,Tryz.ntmps27
 go_wp2_with (first | (go_at_call 62;refine (refLetter _ _).mono ?_;rintro e w1 ⟨rfl,rfl⟩) | (go_at_call 63;refine (refDigit _ _).mono ?_;rintro e w1 ⟨rfl,rfl⟩) | fail)
 refine (HC.out _).mono ?_
 rintro e w2 ⟨hb2,hp⟩
 have hT2:=hT.belowAll hb2
 have hM2:=hM.belowAll hb2
 have hB2:=hB.trans (hb2.mono hB.size)
 have c0:=hT2.cell 0
 have c1:=hT2.cell 1
 have c2:=hT2.cell 2
 have c3:=hT2.cell 3
 have d0:=hM2.cell 0
 have d1:=hM2.cell 1
 have f0:=hT2.free 0
 have f1:=hT2.free 1
 have f2:=hT2.free 2
 have f3:=hT2.free 3
 have g0:=hM2.free 0
 have g1:=hM2.free 1
 simp at c0 c1 c2 c3 d0 d1
 cases R with
 | bad c a=>
  subst hp
  unfold tok mish
  go_wp2
  obtain ⟨h1,h2,h3⟩:=six hT2 hM2 hB2 (.int .i64 (0:Nat)) (.string ⟨#[]⟩) (.int .i64 (0:Nat)) (.int .i64 (0:Nat)) (.int .i64 c) (.int .i64 a)
  exact bodyPost_ret (out19 h1 h2 rfl rfl) rfl ⟨h3,rfl⟩
 | ok r=>
  obtain ⟨t,k⟩:=r
  subst hp
  unfold tok mish
  go_wp2
  obtain ⟨h1,h2,h3⟩:=six hT2 hM2 hB2 (.int .i64 t.kind) (.string ⟨t.text.toArray⟩) (.int .i64 t.num) (.int .i64 (0:Nat)) (.int .i64 (0:Nat)) (.int .i64 (0:Nat))
  exact bodyPost_ret (out19 h1 h2 rfl rfl) rfl ⟨h3,rfl⟩

set_option maxHeartbeats 4000000 in
set_option maxRecDepth 100000 in
theorem refWordS (s:ByteArray) (i:Nat) (hi:i < s.size) (hs:s.size ≤ 65536) (w:World) (hL:ltr s[i].toNat=false) (hD:dig s[i].toNat=false) (hq:(s[i] == 34)=false):
  Calls Tryz.prog 27 #[.string s,.int .i64 (i:Int)] w (TokPost (word i (rest s i)) w):=by
 rw [word_other hi hL hD hq]
 obtain ⟨R,hR⟩:∃ R,R=sign i (rest s i):=⟨_,rfl⟩
 rw [← hR]
 have HR:=Lib.hid hR
 clear hR
 have hq':=(u8i s[i] 34).trans hq
 change ((s[i].toNat:Int) == 34)=false at hq'
 clear hq
 obtain ⟨hT,hM,hB⟩:=laid34 w 75 #[.int .i64 0,.string ⟨#[]⟩,.int .i64 0,.int .i64 0] #[.int .i64 0,.int .i64 0]
 go_enter Tryz.func27,Tryz.ntmps27
 by_cases hm:i + 1 < s.size
 ·have HI:=Lib.hid ((congrArg (isIn twos) (piece2 hm)).trans (isIn_of twos [s[i],s[i + 1]]))
  by_cases htw:isIn twos (s.extract i (i + 2))=true
  ·have HQ:=Lib.hid (sign_two hm (HI.out.symm.trans htw))
   have HP:=Lib.hid (piece2 hm)
   go_wp2_with (first | (go_at_call 66;refine (refTwo _ _).mono ?_;rintro e w1 ⟨rfl,rfl⟩) | (go_at_call 67;refine (refOne _ _).mono ?_;rintro e w1 ⟨rfl,rfl⟩) | (go_at_call 62;refine (refLetter _ _).mono ?_;rintro e w1 ⟨rfl,rfl⟩) | (go_at_call 63;refine (refDigit _ _).mono ?_;rintro e w1 ⟨rfl,rfl⟩))
   obtain ⟨h1,h2,h3⟩:=laid34 w 75 #[.int .i64 4,.string (s.extract i (i + 2)),.int .i64 0,.int .i64 0] #[.int .i64 0,.int .i64 0]
   exact bodyPost_ret (out19 h1 h2 rfl rfl) rfl ⟨h3,by rw [HR.out,HQ.out,HP.out];rfl⟩
  ·have htw':=eq_false_of_ne_true htw
   have HF:=Lib.hid (HI.out.symm.trans htw')
   clear htw
   by_cases hone:isOne s[i].toNat=true
   ·have HQ:=Lib.hid (sign_one2 hm HF.out hone)
    have HP:=Lib.hid (piece1 hi)
    go_wp2_with (first | (go_at_call 66;refine (refTwo _ _).mono ?_;rintro e w1 ⟨rfl,rfl⟩) | (go_at_call 67;refine (refOne _ _).mono ?_;rintro e w1 ⟨rfl,rfl⟩) | (go_at_call 62;refine (refLetter _ _).mono ?_;rintro e w1 ⟨rfl,rfl⟩) | (go_at_call 63;refine (refDigit _ _).mono ?_;rintro e w1 ⟨rfl,rfl⟩))
    obtain ⟨h1,h2,h3⟩:=laid34 w 75 #[.int .i64 4,.string (s.extract i (i + 1)),.int .i64 0,.int .i64 0] #[.int .i64 0,.int .i64 0]
    exact bodyPost_ret (out19 h1 h2 rfl rfl) rfl ⟨h3,by rw [HR.out,HQ.out,HP.out];rfl⟩
   ·have hone':=eq_false_of_ne_true hone
    clear hone
    have HQ:=Lib.hid (sign_none2 hm HF.out hone')
    go_wp2_with ((first | (go_at_call 66;refine (refTwo _ _).mono ?_;rintro e w1 ⟨rfl,rfl⟩) | (go_at_call 67;refine (refOne _ _).mono ?_;rintro e w1 ⟨rfl,rfl⟩) | (go_at_call 62;refine (refLetter _ _).mono ?_;rintro e w1 ⟨rfl,rfl⟩) | (go_at_call 63;refine (refDigit _ _).mono ?_;rintro e w1 ⟨rfl,rfl⟩) | fail))
    refine (refBad 20 i _).mono ?_
    rintro e w2 ⟨rfl,hb2⟩
    have hT2:=hT.belowAll hb2
    have hM2:=hM.belowAll hb2
    have hB2:=hB.trans (hb2.mono hB.size)
    have c0:=hT2.cell 0
    have c1:=hT2.cell 1
    have c2:=hT2.cell 2
    have c3:=hT2.cell 3
    have d0:=hM2.cell 0
    have d1:=hM2.cell 1
    have f0:=hT2.free 0
    have f1:=hT2.free 1
    have f2:=hT2.free 2
    have f3:=hT2.free 3
    have g0:=hM2.free 0
    have g1:=hM2.free 1
    simp at c0 c1 c2 c3 d0 d1
    unfold mish
    go_wp2
    obtain ⟨h1,h2,h3⟩:=six hT2 hM2 hB2 (.int .i64 0) (.string ⟨#[]⟩) (.int .i64 0) (.int .i64 0) (.int .i64 20) (.int .i64 (i:Nat))
    exact bodyPost_ret (out19 h1 h2 rfl rfl) rfl ⟨h3,by rw [HR.out,HQ.out];rfl⟩
 ·have hm':decide ((i:Int) + 1 < (s.size:Int))=false:=by simp;omega
  by_cases hone:isOne s[i].toNat=true
  ·have HQ:=Lib.hid (sign_one1 hi hm hone)
   have HP:=Lib.hid (piece1 hi)
   go_wp2_with (first | (go_at_call 66;refine (refTwo _ _).mono ?_;rintro e w1 ⟨rfl,rfl⟩) | (go_at_call 67;refine (refOne _ _).mono ?_;rintro e w1 ⟨rfl,rfl⟩) | (go_at_call 62;refine (refLetter _ _).mono ?_;rintro e w1 ⟨rfl,rfl⟩) | (go_at_call 63;refine (refDigit _ _).mono ?_;rintro e w1 ⟨rfl,rfl⟩))
   obtain ⟨h1,h2,h3⟩:=laid34 w 75 #[.int .i64 4,.string (s.extract i (i + 1)),.int .i64 0,.int .i64 0] #[.int .i64 0,.int .i64 0]
   exact bodyPost_ret (out19 h1 h2 rfl rfl) rfl ⟨h3,by rw [HR.out,HQ.out,HP.out];rfl⟩
  ·have hone':=eq_false_of_ne_true hone
   clear hone
   have HQ:=Lib.hid (sign_none1 hi hm hone')
   go_wp2_with ((first | (go_at_call 66;refine (refTwo _ _).mono ?_;rintro e w1 ⟨rfl,rfl⟩) | (go_at_call 67;refine (refOne _ _).mono ?_;rintro e w1 ⟨rfl,rfl⟩) | (go_at_call 62;refine (refLetter _ _).mono ?_;rintro e w1 ⟨rfl,rfl⟩) | (go_at_call 63;refine (refDigit _ _).mono ?_;rintro e w1 ⟨rfl,rfl⟩) | fail))
   refine (refBad 20 i _).mono ?_
   rintro e w2 ⟨rfl,hb2⟩
   have hT2:=hT.belowAll hb2
   have hM2:=hM.belowAll hb2
   have hB2:=hB.trans (hb2.mono hB.size)
   have c0:=hT2.cell 0
   have c1:=hT2.cell 1
   have c2:=hT2.cell 2
   have c3:=hT2.cell 3
   have d0:=hM2.cell 0
   have d1:=hM2.cell 1
   have f0:=hT2.free 0
   have f1:=hT2.free 1
   have f2:=hT2.free 2
   have f3:=hT2.free 3
   have g0:=hM2.free 0
   have g1:=hM2.free 1
   simp at c0 c1 c2 c3 d0 d1
   unfold mish
   go_wp2
   obtain ⟨h1,h2,h3⟩:=six hT2 hM2 hB2 (.int .i64 0) (.string ⟨#[]⟩) (.int .i64 0) (.int .i64 0) (.int .i64 20) (.int .i64 (i:Nat))
   exact bodyPost_ret (out19 h1 h2 rfl rfl) rfl ⟨h3,by rw [HR.out,HQ.out];rfl⟩
theorem refWord (s:ByteArray) (i:Nat) (hi:i < s.size) (hs:s.size ≤ 65536) (w:World):Calls Tryz.prog 27 #[.string s,.int .i64 (i:Int)] w (TokPost (word i (rest s i)) w):=by
 cases hL:ltr s[i].toNat with
 | true=>exact refWordL s i hi hs w hL
 | false=>
  cases hD:dig s[i].toNat with
  | true=>exact refWordD s i hi hs w hL hD
  | false=>
   cases hq:(s[i] == 34) with
   | true=>exact refWordQ s i hi hs w hL hD hq
   | false=>exact refWordS s i hi hs w hL hD hq
end Go.Proofs.YtpoghableadkcaaGreatDoor
end
section
/- The walk of sextantref02.Tokens. -/
namespace Go.Proofs.YtpoghableadkcaaGreatDoor
open Go.RowKit

theorem blank_code:∀ (l:Bs) (m:Bool) (i c a:Nat),blank m i l=.bad c a→c=21
 | [],m,i,c,a,h=>by cases m <;> simp [blank] at h;exact h.1.symm
 | [x],m,i,c,a,h=>by
  cases m <;> simp [blank] at h
  ·split at h <;> cases h
  ·exact h.1.symm
 | x :: d :: r,m,i,c,a,h=>by
  unfold blank at h
  split at h
  ·split at h
   ·exact blank_code r _ _ _ _ h
   ·exact blank_code (d :: r) _ _ _ _ h
  ·split at h
   ·exact blank_code r _ _ _ _ h
   ·split at h
    ·exact blank_code (d :: r) _ _ _ _ h
    ·cases h
theorem quo_code:∀ (l acc:Bs) (i c a:Nat),quo i acc l=.bad c a→0 < c
 | [],acc,i,c,a,h=>by simp [quo] at h;omega
 | [x],acc,i,c,a,h=>by
  unfold quo at h
  split at h
  ·cases h
  ·repeat (split at h;· injection h with h;omega)
   injection h with h;omega
 | x :: d :: r,acc,i,c,a,h=>by
  unfold quo at h
  split at h
  ·cases h
  ·split at h
   ·injection h with h;omega
   ·split at h
    ·split at h
     ·exact quo_code r _ _ _ _ h
     ·injection h with h;omega
    ·exact quo_code (d :: r) _ _ _ _ h
theorem sign_code {l:Bs} {i c a:Nat} (h:sign i l=.bad c a):0 < c:=by
 unfold sign at h
 split at h
 ·injection h with h;omega
 ·split at h
  ·cases h
  ·injection h with h;omega
 ·split at h
  ·cases h
  ·split at h
   ·cases h
   ·injection h with h;omega
theorem word_code {l:Bs} {i c a:Nat} (h:word i l=.bad c a):0 < c:=by
 unfold word at h
 split at h
 ·injection h with h;omega
 ·split at h
  ·simp only at h
   split at h
   ·injection h with h;omega
   ·cases h
  ·split at h
   ·simp only at h
    split at h
    ·injection h with h;omega
    ·cases h
   ·split at h
    ·split at h
     ·rename_i x y hq
      injection h with h _;subst h
      exact quo_code _ _ _ _ _ hq
     ·cases h
    ·exact sign_code h
theorem sign_at {l:Bs} {i:Nat} {t:Tk} {n:Nat} (h:sign i l=.ok (t,n)):t.at_=i:=by
 unfold sign at h
 split at h
 ·cases h
 ·split at h
  ·injection h with h;injection h with h _;subst h;rfl
  ·cases h
 ·split at h
  ·injection h with h;injection h with h _;subst h;rfl
  ·split at h
   ·injection h with h;injection h with h _;subst h;rfl
   ·cases h
theorem word_at {l:Bs} {i:Nat} {t:Tk} {n:Nat} (h:word i l=.ok (t,n)):t.at_=i:=by
 unfold word at h
 split at h
 ·cases h
 ·split at h
  ·simp only at h
   split at h
   ·cases h
   ·injection h with h;injection h with h _;subst h;rfl
  ·split at h
   ·simp only at h
    split at h
    ·cases h
    ·injection h with h;injection h with h _;subst h;rfl
   ·split at h
    ·split at h
     ·cases h
     ·injection h with h;injection h with h _;subst h;rfl
    ·exact sign_at h

/-- What is told behind words that are read already. -/
def prep (acc:List Tk):Res (List Tk)→Res (List Tk)
 | .ok ts=>.ok (acc ++ ts)
 | .bad c a=>.bad c a
theorem prep_nil (R:Res (List Tk)):prep [] R=R:=by cases R <;> rfl
theorem prep_prep (a b:List Tk) (R:Res (List Tk)):prep a (prep b R)=prep (a ++ b) R:=by cases R <;> simp [prep]

theorem rest_len (s:ByteArray) (i:Nat):(rest s i).length=s.size - i:=by unfold rest;rw [List.length_drop];simp
theorem tk_bad {s:ByteArray} {i c a:Nat} (h:blank false i (rest s i)=.bad c a):tk i (rest s i)=.bad c a:=by rw [tk_eq,h]
theorem tk_end {s:ByteArray} {i k:Nat} (h:blank false i (rest s i)=.ok k) (hk:s.size ≤ k):tk i (rest s i)=.ok []:=by
 have h1:=blank_ge _ _ _ _ h
 rw [tk_eq,h]
 simp only
 rw [rest_drop,rest_end (by omega)]
theorem tk_wbad {s:ByteArray} {i k c a:Nat} (h:blank false i (rest s i)=.ok k) (hk:k < s.size) (hw:word k (rest s k)=.bad c a):tk i (rest s i)=.bad c a:=by
 have h1:=blank_ge _ _ _ _ h
 rw [tk_eq,h]
 simp only
 rw [rest_drop,show i + (k - i)=k by omega]
 rw [rest_cons hk] at hw ⊢
 simp only [hw]
theorem tk_step {s:ByteArray} {i k n:Nat} {t:Tk} (h:blank false i (rest s i)=.ok k) (hk:k < s.size) (hw:word k (rest s k)=.ok (t,n)):tk i (rest s i)=prep [t] (tk n (rest s n)):=by
 have h1:=blank_ge _ _ _ _ h
 have h2:=word_ge hw
 rw [tk_eq,h]
 simp only
 rw [rest_drop,show i + (k - i)=k by omega]
 have e:(rest s k).drop (n - k)=rest s n:=by rw [rest_drop,show k + (n - k)=n by omega]
 rw [rest_cons hk] at hw e ⊢
 simp only [hw,e]
 cases tk n (rest s n) <;> rfl

/-- A text's words,or why there are none. -/
def tokensOf (s:ByteArray):Res (List Tk):=if 65536 < s.size then .bad 2 0 else tk 0 (rest s 0)
def tkCells (t:Tk):List Value:=[.int .i64 (t.kind:Int),.string ⟨t.text.toArray⟩,.int .i64 (t.num:Int),.int .i64 (t.at_:Int)]
def flatT (ts:List Tk):List Value:=ts.flatMap tkCells
theorem flatT_app (ts:List Tk) (t:Tk):flatT ts ++ tkCells t=flatT (ts ++ [t]):=by simp [flatT]

def TokensPost (E:TypeId) (R:Res (List Tk)) (w:World) (e:Ending) (w':World):Prop:=
 Below w.heap.size w w'∧match R with
 | .ok ts=>∃ v,e=.returned (.tuple #[v,mish 0 0])∧w'.ownsRow w.heap.size E 4 v ts.length (flatT ts)
 | .bad c a=>0 < c∧e=.returned (.tuple #[.slice none 0 0,mish c a])

theorem own_put {w:World} {base g i:Nat} {e t:TypeId} {size n:Nat} {v u:Value} {xs cs:List Value} (h:w.ownsRow base e size v n xs) (hH:Holds w g t cs) (hne:e ≠ t):(w.setCell ⟨g,i,none⟩ u).ownsRow base e size v n xs:=
 ((Fr.refl (fun k=>k=g) w).setCell (fun _=>rfl) u).owns h (fun k hk e=>owns_ne_holds h hH hne (by rw [hk,e]))

theorem cells_of_new (w:World) (m:Nat) (hm:w.heap.size=m) (cs:List Value) (t:TypeId):∀ (j:Nat) (u:Value),cs[j]?=some u→(w.alloc (.cells cs.toArray t)).cell? ((⟨m,0,none⟩:Addr).add j)=some u:=by
 intro j u hu
 subst hm
 rw [Addr.add_lit,Nat.zero_add,(Holds.new w t cs.toArray).cell j]
 exact hu
theorem size_setCell (w:World) (p:Addr) (u:Value):(w.setCell p u).heap.size=w.heap.size:=by simp [World.setCell]

theorem out11 {w:World} {tmps:Array Value} {h:Nat} {x y:Value} (hK:Holds w h 26 [x,y]) (h3:tmps[3]?.getD undef=.pointer (some ⟨h,0,none⟩)):
  (results Tryz.f10 tmps).run Tryz.prog w=.ok (.tuple #[tmps.getD 2 undef,.agg #[x,y]]) w:=by
 have d0:=hK.cell 0
 have d1:=hK.cell 1
 simp at d0 d1
 simp [results,Tryz.results10,h3,go_sem,d0,d1]

set_option maxHeartbeats 4000000 in
set_option maxRecDepth 100000 in
theorem refTokens (s:ByteArray) (w:World):Calls Tryz.prog 10 #[.string s] w (TokensPost 75 (tokensOf s) w):=by
 by_cases hbig:65536 < s.size
 ·have hR:tokensOf s=.bad 2 0:=if_pos hbig
  rw [hR]
  have hM:=Holds.new w 26 #[.int .i64 0,.int .i64 0]
  have hB:Below w.heap.size w (w.alloc (.cells #[.int .i64 0,.int .i64 0] 26)):=(Below.refl _ _).alloc (Nat.le_refl _) _
  go_enter Tryz.func10,Tryz.ntmps10
  go_wp2_with (fail)
  refine (refBad 2 0 _).mono ?_
  rintro e w2 ⟨rfl,hb2⟩
  have hM2:=hM.belowAll hb2
  have hB2:=hB.trans (hb2.mono hB.size)
  have d0:=hM2.cell 0
  have d1:=hM2.cell 1
  have g0:=hM2.free 0
  have g1:=hM2.free 1
  simp at d0 d1
  unfold mish
  go_wp2
  exact bodyPost_ret (out11 ((hM2.put 0 _).put 1 _) rfl) rfl ⟨(hB2.setCell (Nat.le_refl _) _).setCell (Nat.le_refl _) _,by omega,rfl⟩
 ·have hs:s.size ≤ 65536:=by omega
  have hbig':decide ((65536:Int) < (s.size:Int))=false:=by simp;omega
  obtain ⟨R,hR⟩:∃ R,R=tk 0 (rest s 0):=⟨_,rfl⟩
  have hR':tokensOf s=R:=(if_neg hbig).trans hR.symm
  rw [hR']
  have HR:=Lib.hid hR
  clear hR hR'
  go_enter Tryz.func10,Tryz.ntmps10
  go_wp2
  go_loopw [4,5] (fun v n wr=>∃ (i:Nat) (acc:List Tk),n=.int .i64 (i:Int)∧i ≤ s.size∧acc.length ≤ i∧Hid (R=prep acc (tk i (rest s i)))∧wr.ownsRow w.heap.size 75 4 v acc.length (flatT acc)∧Holds wr w.heap.size 26 [.int .i64 0,.int .i64 0]∧Below w.heap.size w wr) (fun _ n _=>(s.size + 10 - intOf n).toNat)
  case atStart=>
   exact ⟨0,[],rfl,by omega,by simp,(show _=_ by rw [HR.out,prep_nil]),⟨rfl,.inl ⟨rfl,rfl⟩⟩,Holds.new w _ _,(Below.refl _ _).alloc (Nat.le_refl _) _⟩
  case round=>
   obtain ⟨i,acc,rfl,hi,hai,HI,hown,hM,hB⟩:=hrel
   go_wp2_with (fail)
   refine (refBlank s i hi hs _).mono ?_
   rintro e w2 ⟨hb2,hp⟩
   have hM2:=hM.belowAll hb2
   have hB2:=hB.trans (hb2.mono hB.size)
   have hown2:=(Fr.of_below hb2 (fun _=>False)).owns hown (fun _ _ h=>h)
   cases hbl:blank false i (rest s i) with
   | bad c a=>
    rw [hbl] at hp
    obtain ⟨j,rfl⟩:=hp
    have hc:=blank_code _ _ _ _ _ hbl
    subst hc
    have HQ:=Lib.hid (tk_bad hbl)
    clear hbl
    have hMa:=hM2.alloc (.cells #[.int .i64 21,.int .i64 (a:Nat)] 26)
    have hBa:=hB2.alloc hB2.size (.cells #[.int .i64 21,.int .i64 (a:Nat)] 26)
    have d0:=hMa.cell 0
    have d1:=hMa.cell 1
    have g0:=hMa.free 0
    have g1:=hMa.free 1
    simp at d0 d1
    unfold mish
    go_wp2
    go_region
    go_wp2
    exact bodyPost_ret (out11 (show Holds _ _ _ _ from (hMa.put 0 _).put 1 _) rfl) rfl ⟨((hBa.setCell (Nat.le_refl _) _).setCell (Nat.le_refl _) _).drew,by rw [HI.out,HQ.out];exact ⟨by omega,rfl⟩⟩
   | ok k=>
    rw [hbl] at hp
    simp only at hp
    subst hp
    unfold mish
    have hk1:=blank_ge _ _ _ _ hbl
    rw [rest_len] at hk1
    have hMa:=hM2.alloc (.cells #[.int .i64 0,.int .i64 0] 26)
    have hBa:=hB2.alloc hB2.size (.cells #[.int .i64 0,.int .i64 0] 26)
    have d0:=hMa.cell 0
    have d1:=hMa.cell 1
    have g0:=hMa.free 0
    have g1:=hMa.free 1
    simp at d0 d1
    by_cases hk:k < s.size
    ·have hk':decide ((s.size:Int) ≤ (k:Int))=false:=by simp;omega
     go_wp2_with (fail)
     refine (refWord s k hk hs _).mono ?_
     rintro e w3 ⟨hb3,hp⟩
     clear d0 d1 g0 g1
     have hM3:=hMa.belowAll hb3
     have hB3:=hBa.trans (hb3.mono hBa.size)
     have h73:=(Holds.new w2 26 #[.int .i64 0,.int .i64 0]).belowAll hb3
     have hown3:=(Fr.of_below hb3 (fun _=>False)).owns (hown2.alloc (.cells #[.int .i64 0,.int .i64 0] 26)) (fun _ _ h=>h)
     have hlt:=hM2.lt
     have hne:w.heap.size ≠ w2.heap.size:=by omega
     have hne':w2.heap.size ≠ w.heap.size:=by omega
     cases hw:word k (rest s k) with
     | bad c a=>
      rw [hw] at hp
      simp only at hp
      subst hp
      have hc:=word_code hw
      have hc':((c:Int) != 0)=true:=by simp;omega
      have HQ:=Lib.hid (tk_wbad hbl hk hw)
      clear hbl hw
      have hM4:=hM3.alloc (.cells #[.int .i64 0,.string ⟨#[]⟩,.int .i64 0,.int .i64 0] 75)
      have hB4:=hB3.alloc hB3.size (.cells #[.int .i64 0,.string ⟨#[]⟩,.int .i64 0,.int .i64 0] 75)
      have h74:=h73.alloc (.cells #[.int .i64 0,.string ⟨#[]⟩,.int .i64 0,.int .i64 0] 75)
      have d0:=hM4.cell 0
      have d1:=hM4.cell 1
      have g0:=hM4.free 0
      have g1:=hM4.free 1
      simp at d0 d1
      have k0:=h74.cell 0
      have k1:=h74.cell 1
      have y0:=h74.free 0
      have y1:=h74.free 1
      simp at k0 k1
      unfold tok mish
      go_wp2
      go_region
      go_wp2
      refine bodyPost_ret (out11 (show Holds _ _ _ _ from (((hM4.far hne _).far hne _).put 0 _).put 1 _) rfl) rfl ⟨?_,?_⟩
      ·exact ((((hB4.setCell (Nat.le_of_lt hlt) _).setCell (Nat.le_of_lt hlt) _).setCell (Nat.le_refl _) _).setCell (Nat.le_refl _) _).drew
      ·rw [HI.out,HQ.out]
       exact ⟨hc,rfl⟩
     | ok r=>
      obtain ⟨t,n⟩:=r
      rw [hw] at hp
      simp only at hp
      subst hp
      have hn:=word_ge hw
      rw [rest_len] at hn
      have hat:=word_at hw
      have HQ:=Lib.hid (tk_step hbl hk hw)
      clear hbl hw
      subst hat
      have hlt3:=h73.lt
      have hne3:w3.heap.size ≠ w2.heap.size:=by omega
      have hne3':w2.heap.size ≠ w3.heap.size:=by omega
      have k0:=h73.cell 0
      have k1:=h73.cell 1
      have y0:=h73.free 0
      have y1:=h73.free 1
      simp at k0 k1
      obtain ⟨W,hW⟩:∃ W,W=((w3.setCell ⟨w2.heap.size,0,none⟩ (.int .i64 0)).setCell ⟨w2.heap.size,1,none⟩ (.int .i64 0)).alloc (.cells (tkCells t).toArray 75):=⟨_,rfl⟩
      have hWs:W.heap.size=w3.heap.size + 1:=by rw [hW];simp
      have hownW:W.ownsRow w.heap.size 75 4 u4 acc.length (flatT acc):=by
       rw [hW]
       exact (own_put (own_put hown3 h73 (by decide)) (h73.put 0 _) (by decide)).alloc _
      have hMW:Holds W w.heap.size 26 [.int .i64 0,.int .i64 0]:=by
       rw [hW]
       exact ((hM3.far hne _).far hne _).alloc _
      have hBW:Below w.heap.size w W:=by
       rw [hW]
       exact ((hB3.setCell (Nat.le_of_lt hlt) _).setCell (Nat.le_of_lt hlt) _).alloc (by rw [size_setCell,size_setCell];omega) _
      have HW:=Lib.hid hW
      clear hW
      unfold tok mish
      obtain ⟨i0,hi0,hz0,hz1,hz2⟩:=info_parts Tryz.info75
      go_wp2_with (at_builtin;refine wpList_append_own_at _ rfl (.tmp 43) (.tmp 45) _ rfl w.heap.size 75 i0 _ 4 40 Tryz.underlying31 hi0 hz0 hz1 hz2 rfl (by omega) u4 acc.length (flatT acc) rfl (show World.ownsRow (((World.alloc ((w3.setCell ⟨w2.heap.size,0,none⟩ (.int .i64 0)).setCell ⟨w2.heap.size,1,none⟩ (.int .i64 0)) (.cells (tkCells t).toArray 75))).alloc (.cells (tkCells t).toArray 75)) _ _ _ _ _ _ by rw [← HW.out];exact hownW.alloc _) ⟨w3.heap.size + 1,0,none⟩ 1 1 (tkCells t) rfl rfl ?c1 ?c2 ?c3 ?c4 ?c5 ?_)
      case c1=>exact cells_of_new _ _ (by rw [← hWs,HW.out];rfl) (tkCells t) 75
      case c2=>simp [tkCells,Value.oneCell']
      case c3=>unfold maxLen;omega
      case c4=>omega
      case c5=>have:=hBW.size;rw [hWs] at this;simp;omega
      intro v' w5 hown5 hgrow _ _
      have hgrow':(W.alloc (.cells (tkCells t).toArray 75)).grownBy w5 u4.ownBlock:=by rw [HW.out];exact hgrow
      have hM5:=own_kept (hownW.alloc (.cells (tkCells t).toArray 75)) hgrow' (hMW.alloc _) (by decide)
      have hB5:=below_own (hBW.alloc hBW.size (.cells (tkCells t).toArray 75)) (hownW.alloc _) hgrow'
      go_wp2
      have hlen:(acc ++ [t]).length=acc.length + 1:=by simp
      exact ⟨⟨n,acc ++ [t],rfl,by omega,by omega,(show _=_ by rw [HI.out,HQ.out,prep_prep]),(by rw [hlen,← flatT_app];exact hown5),hM5,hB5⟩,by simp [intOf];omega⟩
    ·have HQ:=Lib.hid (tk_end hbl (by omega))
     have hk':(s.size:Int) ≤ (k:Int):=by omega
     clear hbl
     go_wp2
     exact bodyPost_ret (out11 ((hMa.put 0 _).put 1 _) rfl) rfl ⟨(hBa.setCell (Nat.le_refl _) _).setCell (Nat.le_refl _) _,by
      rw [HI.out,HQ.out]
      refine ⟨u4,rfl,?_⟩
      simp only [List.append_nil]
      exact own_put (own_put (hown2.alloc _) hMa (by decide)) (hMa.put 0 _) (by decide)⟩
end Go.Proofs.YtpoghableadkcaaGreatDoor
end
