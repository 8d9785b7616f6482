/- Pxx, Pxo, Awk, joined. -/
import Derived.Test.YtpoghableadkcaaGreatDoorM22
import Derived.Test.YtpoghableadkcaaGreatDoorM16
import Derived.Test.YtpoghableadkcaaGreatDoorM17
import Derived.Test.YtpoghableadkcaaGreatDoorM20
section
/- Parse: what stands behind its door. -/
namespace Go.Proofs.YtpoghableadkcaaGreatDoor
open Go.RowKit
set_option linter.unusedVariables false
set_option linter.unusedSimpArgs false

def ParseP (lb:Nat) (W:World) (r:Res (List Unt)) (e:Ending) (w':World):Prop:=
 match r with
 | .ok l=>Fp lb W w'∧e=.returned (.tuple #[])∧∃ v,Holds w' lb 23 [v]∧UntsV (From W.heap.size) w' v l
 | .bad c a=>Below W.heap.size W w'∧e=.panicked (badChain c a)
def ParseIn (f g:Nat) (s:ByteArray) (lb:Nat) (W:World) (e:Ending) (w':World):Prop:=ParseP lb W (parseRes f g s) e w'
/-- The deepest of the units is told. -/
def parseTl (l:List Unt):Res (List Unt):=if 60 < fo dU l then .bad 3 0 else .ok l
def parseOf:R (List Unt)→Res (List Unt)
 | .out=>.bad 0 0
 | .bad c a=>.bad c a
 | .ok l _=>parseTl l
theorem parseRes_eq {f g:Nat} {s:ByteArray} {L:List Tk} (h:tokensOf s=.ok L):parseRes f g s=parseOf (units (envOf s L) f g 0):=by
 unfold parseRes
 rw [h]
 simp only
 cases units (envOf s L) f g 0 <;> rfl
theorem units_end {E:Env} {f g i:Nat} {acc:List Unt} (h:E.L.length ≤ i):(units E f (g + 1) i).bd (fun l k=>R.ok (acc ++ l) k)=.ok acc i:=by
 rw [units,if_pos h];simp [R.bd]
theorem units_semi {E:Env} {f g i:Nat} (h:¬ E.L.length ≤ i) (hs:sees E i [[59]]=true):units E f (g + 1) i=units E f g (i + 1):=by
 rw [units,if_neg h,if_pos hs]
theorem units_one {E:Env} {f g i:Nat} {acc:List Unt} (h:¬ E.L.length ≤ i) (hs:sees E i [[59]]=false):
  (units E f (g + 1) i).bd (fun l k=>R.ok (acc ++ l) k)=(unitP E f i).bd fun u j=>(units E f g j).bd fun l k=>R.ok ((acc ++ [u]) ++ l) k:=by
 rw [units,if_neg h,if_neg (by rw [hs];decide),bd_bd]
 congr 1
 funext u j
 rw [bd_bd]
 simp only [bd_ok,List.append_assoc,List.singleton_append]
theorem listUnt_info:(Tryz.prog.info? 54).map (fun i=>(i.zero.map fun z=>z.cells.size,i.size,i.bytes))=some (some 21,21,352):=by kernel_rfl
set_option maxHeartbeats 1600000 in
set_option maxRecDepth 1000000 in
theorem parseIn {f g:Nat} {s:ByteArray} {W:World} (hw:Wd W) (hf:parseFu f g s) {tb lb:Nat} (ht:Holds W tb 9 [.string s]) {z:Value} (he:Holds W lb 23 [z]):
  Calls Tryz.prog 16 #[.pointer (some ⟨tb,0,none⟩),.pointer (some ⟨lb,0,none⟩)] W (ParseIn f g s lb W):=by
 have hlW:=he.lt
 unfold parseFu at hf
 have HC0:=Lib.hid (begunFn (s:=s) hw)
 have c0:W.cell? ⟨tb,0,none⟩=some (.string s):=ht.cell 0
 have HE:=Lib.hid he
 unfold BegunPost at HC0
 unfold ParseIn
 obtain ⟨R0,hR⟩:∃ r,parseRes f g s=r:=⟨_,rfl⟩
 rw [hR]
 cases htk:tokensOf s with
 | bad c a=>
  unfold parseRes at hR
  rw [htk] at HC0 hR
  simp only at hR
  subst hR
  clear hw hf ht he htk
  go_enter Tryz.func16,Tryz.ntmps16
  go_wp2_with (fail)
  refine HC0.out.mono ?_
  rintro e w1 ⟨hb,rfl⟩
  exact ⟨rfl,hb,rfl⟩
 | ok L=>
  rw [parseRes_eq htk] at hR
  rw [htk] at HC0
  have hfx:=hf L htk
  obtain ⟨E,hE⟩:∃ E,envOf s L=E:=⟨_,rfl⟩
  have hO:EnvOk E:=by rw [← hE];exact (tokens_ok htk).2.2.2.1
  have hC0:=HC0.out
  simp only at hC0
  rw [hE] at hfx hC0 hR
  obtain ⟨Rr,hRr⟩:∃ r,units E f g 0=r:=⟨_,rfl⟩
  rw [hRr] at hfx hR
  have HQ:Hid ((units E f g 0).bd (fun l k=>R.ok ([] ++ l) k)=Rr):=by show _=_;rw [hRr];cases Rr <;> rfl
  replace HC0:=Lib.hid hC0
  have HO:=Lib.hid hO
  have HR:=Lib.hid hR
  have HNE:=Lib.hid hfx
  clear hw hf ht he htk hE hC0 hR hO hfx hRr
  go_enter Tryz.func16,Tryz.ntmps16
  go_wp2_with (fail)
  refine HC0.out.mono ?_
  rintro e w1 ⟨hb,p,vl,rfl,hp,hP⟩
  have HB1:=Lib.hid hb
  have HB:Hid (∀ c a wz,Rr=.bad c a→Fp p w1 wz→ParseP lb W R0 (.panicked (badChain c a)) wz):=by
   show _
   intro c a wz h hF
   rw [← HR.out,h]
   exact ⟨hb.trans (hF.to_below hb.size fun k hk e=>by omega),rfl⟩
  have hAX:Ax UntsF w1 p vl E 54 21 (.slice none 0 0) [] [] w1 0:=Ax.start (fun P w=>by simp [UntsF,LsF]) 54 hP
  have HX:=Lib.hid hAX
  have HE1:=Lib.hid (HE.out.belowAll hb)
  clear hb hP HC0 hAX HE
  go_wp2
  go_loopg [3] g (fun gk v wr=>∃ (acc:List Unt) (flat:List Value) (j:Nat),gk ≤ g∧acc.length ≤ j∧Hid ((units E f gk j).bd (fun l k=>R.ok (acc ++ l) k)=Rr)∧Hid (Ax UntsF w1 p vl E 54 21 v acc flat wr j))
  case atStart=>exact ⟨[],[],0,Nat.le_refl _,Nat.zero_le _,HQ,HX⟩
  case round=>
   clear HQ HX
   obtain ⟨acc,flat,j,hgk,hacc,HQ,HX⟩:=hrel
   cases gk with
   | zero=>exact absurd (HQ.out.symm.trans (by rw [units];rfl)) HNE.out
   | succ gk=>
    have hP:=HX.out.par
    obtain ⟨a0,cp,hvl,_⟩:=hP.form
    obtain ⟨N,hN⟩:∃ N,E.L.length=N:=⟨_,rfl⟩
    have k1:wr.cell? ⟨p,1,none⟩=some (.slice a0 N cp):=by rw [← hN,← hvl];exact hP.cells.2.1
    have k2:wr.cell? ⟨p,2,none⟩=some (.int .i64 (j:Int)):=hP.cells.2.2.1
    have hle:j ≤ N:=by rw [← hN];exact hP.le
    have HN:=Lib.hid hN
    clear hP hN hvl
    by_cases hj:j < N
    ·have hjd:decide ((j:Int) < (N:Int))=true:=decide_eq_true (by omega)
     have hji:(j:Int) < (N:Int):=by omega
     have HJ:Hid (¬ E.L.length ≤ j):=by show ¬ _;rw [HN.out];omega
     go_wp2
     go_quiet (fail)
     have hX2:Ax UntsF w1 p vl E 54 21 u3 acc flat (wr.drewN nq) j:=HX.out.below rowUnt (below_drewN (Below.refl _ _) nq)
     have HX2:=Lib.hid hX2
     obtain ⟨wq,hwq⟩:∃ w,wr.drewN nq=w:=⟨_,rfl⟩
     rw [hwq] at HX2
     rw [hwq]
     clear hX2 HX k1 k2 hwq
     obtain hs | hs:=tf (sees E j [[59]])
     ·have HT:=Lib.hid (HX2.out.takes rowUnt [[59]] #[.string ⟨#[59]⟩] rfl (by decide) true hs)
      replace HQ:=Lib.hid ((congrArg (fun r:R (List Unt)=>r.bd fun l k=>R.ok (acc ++ l) k) (units_semi HJ.out hs)).symm.trans HQ.out)
      clear HX2 hs
      go_wp2_with (fail)
      refine HT.out.mono ?_
      rintro e w5 ⟨rfl,HX5⟩
      clear HT
      go_wp2
      go_roundg gk
      case measure=>omega
      case rel=>exact ⟨acc,flat,j + 1,by omega,by omega,HQ,HX5⟩
     ·have HT:=Lib.hid (HX2.out.takes rowUnt [[59]] #[.string ⟨#[59]⟩] rfl (by decide) false hs)
      replace HQ:=Lib.hid ((units_one (acc:=acc) HJ.out hs).symm.trans HQ.out)
      clear HX2 hs
      go_wp2_with (fail)
      refine HT.out.mono ?_
      rintro e w5 ⟨rfl,HX5⟩
      replace HX5:Hid (Ax UntsF w1 p vl E 54 21 u3 acc flat w5 j):=HX5
      have HLT:=Lib.hid (owns_lt HX5.out.own)
      have HSZ:=Lib.hid HX5.out.fp.size
      have HC:=Lib.hid (HX5.out.part rowUnt (unitFn HO.out HX5.out.par (bd_ne HQ.out HNE.out)) HQ.out)
      clear HQ HX5 HT
      go_wp2_with (fail)
      refine HC.out _ (fun c a wz h hF=>⟨rfl,HB.out c a wz h hF⟩) ?_
      rintro s j1 u w6 hr HQ hv HX
      have hj1:=unit_pos hr
      obtain ⟨cs,rfl,hs⟩:=hv
      obtain ⟨hl,ho⟩:=hs.one
      have hsz1:=HX.out.fp.size
      have hj651:=HX.out.few
      have HOc:Hid (∀ u ∈ cs,u.oneCell'=true):=by have h:=List.all_eq_true.1 ho;exact fun u hu=>h u hu
      have HS:Hid (UntsF (From w5.heap.size) w6 [s] cs):=⟨cs,[],by simp,hs,rfl⟩
      have HXa:=Lib.hid (HX.out.alloc rowUnt (.cells cs.toArray 54))
      obtain ⟨va,vc,hva,_⟩:=owns_form HX.out.own
      subst hva
      clear hr HC hs ho
      obtain ⟨i0,z0,hi0,hz0,hz1,hz2,hz3⟩:=info_of listUnt_info
      go_wp2_with (first | (refine wpList_buildSlice1 (size:=21) rfl _ rfl Tryz.underlying23 hi0 hz0 hz1 (by omega) (by omega) cs rfl hl ?_) | (at_builtin;refine wpList_append_own_at _ rfl (.tmp 20) (.tmp 23) _ rfl w1.heap.size 54 i0 z0 21 352 Tryz.underlying23 hi0 hz0 hz1 hz2 hz3 (by omega) _ acc.length flat rfl HXa.out.own ⟨w6.heap.size,0,none⟩ 1 1 cs rfl (by rw [hl]) cells_new HOc.out (by unfold maxLen;omega) (by omega) (by simp;omega) ?_))
      intro v' w7 hown hgrow _ hat
      have HX7:=Lib.hid (HX.out.push rowUnt HSZ.out HLT.out HS.out hown hgrow (by simpa using hat))
      clear hown hgrow hat HX HXa HS HOc HLT HSZ hi0 hz0 hz1 hz2 hz3 hl hsz1
      go_wp2
      go_roundg gk
      case measure=>omega
      case rel=>exact ⟨acc ++ [s],flat ++ cs,j1,by omega,by simp;omega,HQ,HX7⟩
    ·have hjd:decide ((j:Int) < (N:Int))=false:=decide_eq_false (by omega)
     have hji:¬ (j:Int) < (N:Int):=by omega
     have hend:=HQ.out.symm.trans (units_end (acc:=acc) (by rw [HN.out];omega))
     have HR2:Hid (parseTl acc=R0):=by show _=_;rw [← HR.out,hend];rfl
     clear hend HR HQ HB HNE
     go_wp2
     go_quiet (fail)
     have hX2:Ax UntsF w1 p vl E 54 21 u3 acc flat (wr.drewN nq) j:=HX.out.below rowUnt (below_drewN (Below.refl _ _) nq)
     obtain ⟨wq,hwq⟩:∃ w,wr.drewN nq=w:=⟨_,rfl⟩
     rw [hwq] at hX2
     rw [hwq]
     have hF2:=hX2.fp
     have hrow:RowL (From w1.heap.size) wq 21 u3 acc.length flat:=RowL.of_owns hX2.own (fun k hk=>hk)
     have hel:UntsF (From w1.heap.size) wq acc flat:=UntsF.mono Wide.of_but acc hX2.el
     have hB2:Below W.heap.size W wq:=HB1.out.trans (hF2.to_below HB1.out.size fun k hk e=>by omega)
     have HC:=Lib.hid (deepUnt dU oneUnt acc 21 (enters_of Tryz.func21 (by decide) rfl) (fun a _=>fun h=>untD a h) hrow hel)
     have HROW:=Lib.hid hrow
     have HEL:=Lib.hid hel
     have HB2:=Lib.hid hB2
     have HE2:=Lib.hid (Fr.holds hF2 HE1.out (by show ¬ _=_;omega))
     clear hX2 HX k1 k2 hwq hF2 hrow hel hB2 HE1
     go_wp2_with (fail)
     refine HC.out.mono ?_
     rintro e w5 ⟨rfl,hb5⟩
     obtain ⟨va,vc,hu3,_⟩:=HROW.out.form
     subst hu3
     have HB5:=Lib.hid (HB2.out.trans (hb5.mono HB2.out.size))
     have hE5:=HE2.out.belowAll hb5
     have d0:w5.cell? ⟨lb,0,none⟩=some z:=hE5.cell 0
     have e0:w5.frozen? ⟨lb,0,none⟩=false:=hE5.free 0
     have HH:=Lib.hid (hE5.put 0 (.slice va acc.length vc))
     have hF6:Fp lb W (w5.setCell ⟨lb,0,none⟩ (.slice va acc.length vc)):=Fp.trans (Fp.of_below HB5.out) (Fp.selfR [.slice va acc.length vc] 0 (Fp.refl _ _))
     have hk6:Keep (From W.heap.size) w5 (w5.setCell ⟨lb,0,none⟩ (.slice va acc.length vc)):=Keep.setR (by show ¬ _;exact Nat.not_le.2 hlW) [.slice va acc.length vc] 0
     have hV6:UntsV (From W.heap.size) (w5.setCell ⟨lb,0,none⟩ (.slice va acc.length vc)) (.slice va acc.length vc) acc:=
      ⟨flat,((HROW.out.up (Keep.below hb5)).mono (Wide.from HB1.out.size)).up hk6,UntsF.up hk6 acc (UntsF.mono (Wide.from HB1.out.size) acc (UntsF.up (Keep.below hb5) acc HEL.out))⟩
     have HF6:=Lib.hid hF6
     have HV6:=Lib.hid hV6
     obtain ⟨dx,hdx⟩:∃ d,fo dU acc=d:=⟨_,rfl⟩
     have hr:=HR2.out
     unfold parseTl at hr
     rw [hdx] at hr
     rw [hdx]
     clear hb5 hE5 hF6 hk6 hV6 HC HROW HEL HB2 HE2 HR2 hdx
     by_cases hd:60 < dx
     ·have hdd:decide (60 < dx)=true:=decide_eq_true hd
      rw [if_pos hd] at hr
      have hP:ParseP lb W R0 (.panicked (badChain 3 0)) w5:=by
       rw [← hr]
       exact ⟨HB5.out,rfl⟩
      have HP:=Lib.hid hP
      clear hr hP
      go_wp2
      exact ⟨rfl,HP.out⟩
     ·have hdd:decide (60 < dx)=false:=decide_eq_false hd
      rw [if_neg hd] at hr
      have hP:ParseP lb W R0 (.returned (.tuple #[])) (w5.setCell ⟨lb,0,none⟩ (.slice va acc.length vc)):=by
       rw [← hr]
       exact ⟨HF6.out,rfl,_,HH.out,HV6.out⟩
      have HP:=Lib.hid hP
      clear hd hr hP
      go_wp2
      exact bodyPost_end (v:=.tuple #[]) (by simp [results,Tryz.results16,go_sem]) rfl HP.out
end Go.Proofs.YtpoghableadkcaaGreatDoor
end
section
/- Parse, from outside. -/
namespace Go.Proofs.YtpoghableadkcaaGreatDoor
open Go.RowKit
set_option linter.unusedVariables false
set_option linter.unusedSimpArgs false

def ParsePost (f g:Nat) (s:ByteArray) (w:World) (e:Ending) (w':World):Prop:=
 Below w.heap.size w w'∧match parseRes f g s with
 | .ok x=>∃ v,e=.returned (.tuple #[v,mish 0 0])∧UntsV (From w.heap.size) w' v x
 | .bad c a=>e=.returned (.tuple #[.slice none 0 0,mish c a])
theorem untsV_up {P:Nat→Prop} {w w':World} {v:Value} {l:List Unt} (h:UntsV P w v l) (hu:Keep P w w'):UntsV P w' v l:=by
 obtain ⟨f,h1,h2⟩:=h
 exact ⟨f,h1.up hu,UntsF.up hu l h2⟩
theorem untsV_mono {P Q:Nat→Prop} {w:World} {v:Value} {l:List Unt} (h:UntsV P w v l) (hl:Wide P Q w):UntsV Q w v l:=by
 obtain ⟨f,h1,h2⟩:=h
 exact ⟨f,h1.mono hl,UntsF.mono hl l h2⟩
/-- What lies behind what is caught. -/
def ParseR (f g:Nat) (s:ByteArray) (w:World) (eb mb:Nat) (r:Option (Nat × Nat)) (w':World):Prop:=
 Below w.heap.size w w'∧Holds w' mb 26 [.int .i64 0,.int .i64 0]∧match parseRes f g s with
 | .ok x=>r=none∧∃ v,Holds w' eb 23 [v]∧UntsV (From (w.heap.size + 4)) w' v x
 | .bad c a=>r=some (c,a)∧Holds w' eb 23 [.slice none 0 0]
set_option maxHeartbeats 1600000 in
set_option maxRecDepth 1000000 in
theorem parseTop {f g:Nat} {s:ByteArray} {w:World} (hw:Wd w) (hf:parseFu f g s):Calls Tryz.prog 8 #[.string s] w (ParsePost f g s w):=by
 have hmf:∀ (fn:Fn) (first cap:Array Value) (w:World),(Instr.makeFunc fn first cap).run Tryz.prog w=.ok (.func fn first cap) w:=fun _ _ _ _=>rfl
 obtain ⟨W,hW⟩:∃ W,W=((w.alloc (.cells #[.string s] 9)).alloc (.cells #[.slice none 0 0] 23)).alloc (.cells #[.int .i64 0,.int .i64 0] 26):=⟨_,rfl⟩
 have hsz:W.heap.size=w.heap.size + 3:=by rw [hW];simp
 have hB0:Below w.heap.size w W:=by rw [hW];exact (((Below.refl _ _).alloc (Nat.le_refl _) _).alloc (by simp) _).alloc (by simp;omega) _
 have hT:Holds W w.heap.size 9 [.string s]:=by rw [hW];exact ((Holds.new w 9 #[.string s]).alloc _).alloc _
 have hE:Holds W (w.heap.size + 1) 23 [.slice none 0 0]:=by
  rw [hW]
  have:=(Holds.new (w.alloc (.cells #[.string s] 9)) 23 #[.slice none 0 0]).alloc (.cells #[.int .i64 0,.int .i64 0] 26)
  rwa [show (w.alloc (.cells #[.string s] 9)).heap.size=w.heap.size + 1 by simp] at this
 have hM:Holds W (w.heap.size + 2) 26 [.int .i64 0,.int .i64 0]:=by
  rw [hW]
  have:=Holds.new ((w.alloc (.cells #[.string s] 9)).alloc (.cells #[.slice none 0 0] 23)) 26 #[.int .i64 0,.int .i64 0]
  rwa [show ((w.alloc (.cells #[.string s] 9)).alloc (.cells #[.slice none 0 0] 23)).heap.size=w.heap.size + 2 by simp] at this
 have hbc:Below W.heap.size W (W.alloc (.cells #[.int .i64 0,.int .i64 0] 26)):=(Below.refl _ _).alloc (Nat.le_refl _) _
 have hin:=parseIn (f:=f) (g:=g) (s:=s) ((hw.below hB0).below hbc) hf (hT.alloc (.cells #[.int .i64 0,.int .i64 0] 26)) (hE.alloc (.cells #[.int .i64 0,.int .i64 0] 26))
 have hC:=caughtFn (g:=16) (cs:=#[.pointer (some ⟨w.heap.size,0,none⟩),.pointer (some ⟨w.heap.size + 1,0,none⟩)]) (enters_of Tryz.func16 (by decide) rfl) (w:=W) (ParseR f g s w (w.heap.size + 1) (w.heap.size + 2)) (fun r W1 W2 hlt hF h=>by
  obtain ⟨h1,h2,h3⟩:=h
  refine ⟨h1.trans (hF.to_below h1.size fun k hk e=>by omega),Fr.holds hF h2 (by show ¬ _=_;omega),?_⟩
  cases hr:parseRes f g s with
  | ok x=>
   rw [hr] at h3
   obtain ⟨h4,v,h5,h6⟩:=h3
   exact ⟨h4,v,Fr.holds hF h5 (by show ¬ _=_;omega),untsV_up h6 (Keep.of_fp hF (by show ¬ _;omega))⟩
  | bad c a=>
   rw [hr] at h3
   exact ⟨h3.1,Fr.holds hF h3.2 (by show ¬ _=_;omega)⟩) (hin.mono fun e w' h=>by
  unfold ParseIn at h
  unfold ParseR
  have hlt:W.heap.size < (W.alloc (.cells #[.int .i64 0,.int .i64 0] 26)).heap.size:=by simp
  cases hr:parseRes f g s with
  | ok x=>
   rw [hr] at h
   obtain ⟨hF,rfl,v,h5,h6⟩:=h
   have hB1:Below w.heap.size w w':=(hB0.trans (hbc.mono hB0.size)).trans (hF.to_below (by omega) fun k hk e=>by omega)
   exact ⟨Fr.holds hF (Holds.new W 26 #[.int .i64 0,.int .i64 0]) (by show ¬ _=_;omega),.inl ⟨_,rfl,hB1,Fr.holds hF (hM.alloc _) (by show ¬ _=_;omega),rfl,v,h5,untsV_mono h6 (Wide.from (by simp;omega))⟩⟩
  | bad c a=>
   rw [hr] at h
   obtain ⟨hb,rfl⟩:=h
   exact ⟨(Holds.new W 26 #[.int .i64 0,.int .i64 0]).belowAll hb,.inr ⟨c,a,rfl,(hB0.trans (hbc.mono hB0.size)).trans (hb.mono (by omega)),(hM.alloc _).belowAll hb,rfl,(hE.alloc _).belowAll hb⟩⟩)
 have HC:=Lib.hid hC
 have HSZ:=Lib.hid hsz
 clear hC hin hbc hM hE hT hB0 hw hf hsz
 go_enter Tryz.func8,Tryz.ntmps8
 subst hW
 go_wp2_with (fail)
 refine HC.out.mono ?_
 rintro e w1 ⟨r,rfl,hB,hM,hr⟩
 obtain ⟨va,vn,vc,c,a,htl,hE,hP⟩:∃ (va:Option Addr) (vn vc:Nat) (c a:Nat),told r=mish c a∧Holds w1 (w.heap.size + 1) 23 [.slice va vn vc]∧∀ w2,Below w.heap.size w w2→Keep (From (w.heap.size + 4)) w1 w2→ParsePost f g s w (.returned (.tuple #[.slice va vn vc,mish c a])) w2:=by
  unfold ParsePost
  cases hx:parseRes f g s with
  | ok x=>
   rw [hx] at hr
   obtain ⟨rfl,v,hE,hv⟩:=hr
   obtain ⟨fl,hrow,hel⟩:=hv
   obtain ⟨va,vc,rfl,_⟩:=hrow.form
   exact ⟨_,_,_,0,0,rfl,hE,fun w2 hb hk=>⟨hb,_,rfl,untsV_mono (untsV_up ⟨fl,hrow,hel⟩ hk) (Wide.from (by omega))⟩⟩
  | bad c a=>
   rw [hx] at hr
   obtain ⟨rfl,hE⟩:=hr
   exact ⟨_,_,_,c,a,rfl,hE,fun w2 hb hk=>⟨hb,rfl⟩⟩
 have c0:w1.cell? ⟨w.heap.size + 1 + 1,0,none⟩=some (.int .i64 0):=hM.cell 0
 have c1:w1.cell? ⟨w.heap.size + 1 + 1,1,none⟩=some (.int .i64 0):=hM.cell 1
 have f0:w1.frozen? ⟨w.heap.size + 1 + 1,0,none⟩=false:=hM.free 0
 have f1:w1.frozen? ⟨w.heap.size + 1 + 1,1,none⟩=false:=hM.free 1
 have hT:Two w 23 [.slice va vn vc] [.int .i64 (c:Int),.int .i64 (a:Int)] w1 ((w1.setCell ⟨w.heap.size + 1 + 1,0,none⟩ (.int .i64 (c:Int))).setCell ⟨w.heap.size + 1 + 1,1,none⟩ (.int .i64 (a:Int))):=
  ⟨hB.trans ((Fp.selfR [.int .i64 (c:Int),.int .i64 (a:Int)] 0 (Fp.refl (w.heap.size + 2) w1)).to_below hB.size fun k hk e=>by omega),Holds.farR (b':=w.heap.size + 2) (by omega) [.int .i64 (c:Int),.int .i64 (a:Int)] 0 hE,Holds.setR [.int .i64 (c:Int),.int .i64 (a:Int)] 0 hM,Keep.setR (b:=w.heap.size + 2) (by show ¬ _;omega) [.int .i64 (c:Int),.int .i64 (a:Int)] 0,by simp⟩
 have HT:=Lib.hid hT
 have HP:=Lib.hid hP
 rw [htl]
 clear hE hM hB hP hr HC htl hT
 unfold mish at HP ⊢
 go_wp2_with (fail)
 refine wp_region_calm (af:=⟨#[.string s,.pointer (some ⟨w.heap.size,0,none⟩),.pointer (some ⟨w.heap.size + 1,0,none⟩),.pointer (some ⟨w.heap.size + 1 + 1,0,none⟩),.func (.func 16) #[] #[.pointer (some ⟨w.heap.size,0,none⟩),.pointer (some ⟨w.heap.size + 1,0,none⟩)],.agg #[.int .i64 (c:Int),.int .i64 (a:Int)],.slice va vn vc,.agg #[.int .i64 (c:Int),.int .i64 (a:Int)]],[]⟩) (Two w 23 [.slice va vn vc] [.int .i64 (c:Int),.int .i64 (a:Int)] w1) (by kernel_rfl) (by kernel_rfl) ((Agree.rfl_.putr (j:=0) (d:=6) rfl rfl rfl (.slice va vn vc)).putr (j:=1) (d:=7) rfl rfl rfl (.agg #[.int .i64 (c:Int),.int .i64 (a:Int)])) HT.out.drew (fun i hi=>?_) (fun w' hS=>?_)
 ·have hi3:i=0∨i=1∨i=2∨i=3:=by
   have:i < 4:=hi
   omega
  clear hi
  rcases hi3 with rfl | rfl | rfl | rfl
  ·exact calm_load 23 2 rfl rfl (by kernel_rfl) rfl rfl (.slice va vn vc) (fun d hd _=>by injection hd with hd;subst hd;rfl) fun w2 h=>by have h0:=h.eb.cell 0;simp at h0;simp [Instr.loadAt,go_sem,h0]
  ·exact calm_load 26 3 rfl rfl (by kernel_rfl) rfl rfl (.agg #[.int .i64 (c:Int),.int .i64 (a:Int)]) (fun d hd _=>by injection hd with hd;subst hd;rfl) fun w2 h=>run_loadAt_mid w2 _ 0 _ [.int .i64 (c:Int),.int .i64 (a:Int)] _ (h.mb.range (n:=2) rfl) Tryz.underlying26 rfl sz_Mis
  ·exact calm_store 23 2 6 rfl rfl rfl (by kernel_rfl) (by kernel_rfl) rfl rfl rfl fun w2 h=>⟨_,store1 h.eb (by simp) sz_Unts rfl rfl,h.setE⟩
  ·exact calm_store 26 3 7 rfl rfl rfl (by kernel_rfl) (by kernel_rfl) rfl rfl rfl fun w2 h=>⟨_,storeN h.mb (by simp) sz_Mis (by simp [Value.oneCell']),h.setM⟩
 ·have e1:(loadVar 23 ⟨w.heap.size + 1,0,none⟩).run Tryz.prog w'=.ok (.slice va vn vc) w':=by have h0:=hS.eb.cell 0;simp at h0;simp [go_sem,h0]
  have e2:(loadVar 26 ⟨w.heap.size + 1 + 1,0,none⟩).run Tryz.prog w'=.ok (.agg #[.int .i64 (c:Int),.int .i64 (a:Int)]) w':=run_loadVar_mid w' _ 0 _ [.int .i64 (c:Int),.int .i64 (a:Int)] _ (hS.mb.range (n:=2) rfl) Tryz.underlying26 rfl sz_Mis
  have hP2:=HP.out w' hS.below hS.keep
  go_wp2_with (fail)
  refine bodyPost_ret (v:=.tuple #[.slice va vn vc,.agg #[.int .i64 (c:Int),.int .i64 (a:Int)]]) ?_ rfl hP2
  exact results_cells Tryz.results8 rfl rfl e1 e2
end Go.Proofs.YtpoghableadkcaaGreatDoor
end
section
/- Some answers that the document fixes: awake. -/
namespace Go.Proofs.YtpoghableadkcaaGreatDoor
open Go.RowKit
set_option linter.unusedVariables false
set_option linter.unusedSimpArgs false

def stOpts:Stm→List (List Stm)
 | .mk _ _ _ _ _ _ _ _ _ _ _ _ _ op _=>op
theorem aw1:∃ (u0 u1:Unt) (s:Stm),parseRes 14 6 ⟨#[98,121,116,101,32,120,59,32,105,110,105,116,32,123,32,105,102,32,58,58,32,120,32,62,32,48,32,45,62,32,120,45,45,59,32,58,58,32,101,108,115,101,32,102,105,32,125]⟩=.ok [u0,u1]∧u1.kind=5∧u1.body=[s]∧(stOpts s).length=2:=by
 have h:=awake1
 revert h
 generalize parseRes 14 6 ⟨#[98,121,116,101,32,120,59,32,105,110,105,116,32,123,32,105,102,32,58,58,32,120,32,62,32,48,32,45,62,32,120,45,45,59,32,58,58,32,101,108,115,101,32,102,105,32,125]⟩=r
 intro h
 match r,h with
 | .ok [u0,u1],h=>
  unfold isAwake at h
  simp only [Bool.and_eq_true,beq_iff_eq] at h
  obtain ⟨h1,h2⟩:=h
  match hb:u1.body,h2 with
  | [.mk a1 a2 a3 a4 a5 a6 a7 a8 a9 b1 b2 b3 b4 op b5],h2=>
   simp only [beq_iff_eq] at h2
   exact ⟨u0,u1,_,rfl,h1,hb,h2⟩
theorem aw2:parseRes 14 6 ⟨#[105,110,105,116,32,123,32,120,32,61,32,125]⟩=.bad 30 11:=by
 have h:=awake2
 revert h
 generalize parseRes 14 6 ⟨#[105,110,105,116,32,123,32,120,32,61,32,125]⟩=r
 intro h
 match r,h with
 | .bad c a,h=>
  simp only [Bool.and_eq_true,beq_iff_eq] at h
  rw [h.1,h.2]
theorem aw3:∃ e:Ast,exprRes 14 ⟨#[49,32,43,32,50,32,42,32,51]⟩=.ok e∧e.name=[43]:=by
 have h:=awake3
 revert h
 generalize exprRes 14 ⟨#[49,32,43,32,50,32,42,32,51]⟩=r
 intro h
 match r,h with
 | .ok (.mk a b n c d e f g i),h=>
  simp only [beq_iff_eq] at h
  exact ⟨_,rfl,h⟩
/-- What awake looks at of what is read. -/
theorem aw_cells {P:Nat→Prop} {w:World} {v:Value} {u0 u1:Unt} {s:Stm} (h:UntsV P w v [u0,u1]) (hk:u1.kind=5) (hb:u1.body=[s]) (ho:(stOpts s).length=2):
  ∃ g o cap g2 o2 cap2 a3 cap3,v=.slice (some ⟨g,o,none⟩) 2 cap∧w.cell? ⟨g,o + 21,none⟩=some (.int .i64 5)∧w.cell? ⟨g,o + 21 + 20,none⟩=some (.slice (some ⟨g2,o2,none⟩) 1 cap2)∧w.cell? ⟨g2,o2 + 26,none⟩=some (.slice a3 2 cap3):=by
 obtain ⟨fl,⟨a,cap,rfl,hc1,hc2,hl,_,h6⟩,c0,r0,rfl,hu0,c1,r1,rfl,hu1,rfl⟩:=h
 obtain ⟨g,o,cs,t,rfl,_,hH,hcs⟩:=h6 (by simp)
 have hl0:=hu0.one.1
 obtain ⟨vn,cn,ci,ch,ck,ca,dv,vd,vb,rfl,_,_,_,_,hbody⟩:=hu1
 rw [hb] at hbody
 obtain ⟨fb,⟨a2,cap2,rfl,hd1,hd2,hbl,_,h7⟩,cb,rb,rfl,hst,rfl⟩:=hbody
 obtain ⟨g2,o2,cs2,t2,rfl,_,hH2,hcs2⟩:=h7 (by simp)
 cases s with
 | mk kind at_ name text n sorted random keep ref e es args decl opts body=>
  simp only [stOpts] at ho
  rw [StmF] at hst
  obtain ⟨rn,ri,rh,en,ei,eh,ek,ea,ves,vas,dv2,vo,vb2,rfl,_,_,_,_,_,⟨fo,hro,_⟩,_⟩:=hst
  obtain ⟨a3,cap3,rfl,_⟩:=hro.form
  refine ⟨g,o,cap,g2,o2,cap2,a3,cap3,rfl,?_,?_,?_⟩
  ·rw [hH.cell,hcs 21 (by simp),List.getElem?_append_right (by omega),hl0,hk];rfl
  ·rw [hH.cell,Nat.add_assoc,hcs 41 (by simp),List.getElem?_append_right (by omega),hl0];simp [Ast.cells]
  ·rw [hH2.cell,hcs2 26 (by simp)];simp [Ast.cells,ho]
set_option maxHeartbeats 1600000 in
set_option maxRecDepth 1000000 in
theorem awakeFn {w:World} (hw:Wd w):Calls Tryz.prog 7 #[] w fun e w'=>e=.returned (.bool true)∧Below w.heap.size w w':=by
 obtain ⟨u0,u1,s,h1,hk,hb,ho⟩:=aw1
 have hC:=parseTop (f:=14) (g:=6) (s:=⟨#[98,121,116,101,32,120,59,32,105,110,105,116,32,123,32,105,102,32,58,58,32,120,32,62,32,48,32,45,62,32,120,45,45,59,32,58,58,32,101,108,115,101,32,102,105,32,125]⟩) hw (parseFu_of (by rw [h1];simp))
 unfold ParsePost at hC
 rw [h1] at hC
 have HC:=Lib.hid hC
 have HW:=Lib.hid hw
 clear hC hw
 go_enter Tryz.func7,Tryz.ntmps7
 go_wp2_with (fail)
 refine HC.out.mono ?_
 rintro e w1 ⟨hB1,v,rfl,hv⟩
 obtain ⟨g,o,cap,g2,o2,cap2,a3,cap3,rfl,k1,k2,k3⟩:=aw_cells hv hk hb ho
 clear hv HC hb ho
 unfold mish
 have hB2:Below w.heap.size w (w1.alloc (.cells #[.int .i64 0,.int .i64 0] 26)):=hB1.alloc (hB1.size) _
 have HB2:=Lib.hid hB2
 have hC:=parseTop (f:=14) (g:=6) (s:=⟨#[105,110,105,116,32,123,32,120,32,61,32,125]⟩) (HW.out.below hB2) (parseFu_of (by rw [aw2];simp))
 unfold ParsePost at hC
 rw [aw2] at hC
 have HC:=Lib.hid hC
 clear hC hB1 hB2
 go_wp2_with (fail)
 refine HC.out.mono ?_
 rintro e w2 ⟨hB2,rfl⟩
 have hb2:=HB2.out
 have hb12:Below w1.heap.size w1 w2:=((Below.refl w1.heap.size w1).alloc (Nat.le_refl _) (.cells #[.int .i64 0,.int .i64 0] 26)).trans (hB2.mono (by simp))
 have k4:w2.cell? ⟨w1.heap.size,0,none⟩=some (.int .i64 0):=((Holds.new w1 26 #[.int .i64 0,.int .i64 0]).belowAll hB2).cell 0
 have k5:w2.cell? ⟨w1.heap.size,1,none⟩=some (.int .i64 0):=((Holds.new w1 26 #[.int .i64 0,.int .i64 0]).belowAll hB2).cell 1
 have hb3:Below w.heap.size w (w2.alloc (.cells #[.int .i64 30,.int .i64 11] 26)):=(hb2.trans (hB2.mono hb2.size)).alloc (hb2.trans (hB2.mono hb2.size)).size _
 have HB3:=Lib.hid hb3
 obtain ⟨ex,h3,hn⟩:=aw3
 have hC:=exprTop (f:=14) (s:=⟨#[49,32,43,32,50,32,42,32,51]⟩) (HW.out.below hb3) (exprFu_of (by rw [h3];simp))
 unfold ExprPost at hC
 rw [h3] at hC
 have HC:=Lib.hid hC
 have HB1:=Lib.hid hb12
 have K1:=Lib.hid k1
 have K2:=Lib.hid k2
 have K3:=Lib.hid k3
 clear hC hB2 hb2 hb12 hb3 k1 k2 k3
 unfold mish
 go_wp2_with (fail)
 refine HC.out.mono ?_
 rintro e w3 ⟨hB3,c,rfl,vn,vi,vh,vk,va,rfl,hv⟩
 obtain ⟨xa1,xn1,xc1,xa2,xn2,xc2,xa3,xn3,xc3,xa4,xn4,xc4,xa5,xn5,xc5,rfl,rfl,rfl,rfl,rfl⟩:=hv.forms
 have hb23:Below w1.heap.size w1 w3:=HB1.out.trans ((((Below.refl w2.heap.size w2).alloc (Nat.le_refl _) (.cells #[.int .i64 30,.int .i64 11] 26)).trans (hB3.mono (by simp))).mono HB1.out.size)
 have hb33:Below w2.heap.size w2 w3:=((Below.refl w2.heap.size w2).alloc (Nat.le_refl _) (.cells #[.int .i64 30,.int .i64 11] 26)).trans (hB3.mono (by simp))
 have q1:w3.cell? ⟨g,o + 21,none⟩=some (.int .i64 5):=by rw [hb23.cell (World.block_lt_of_cell? w1 _ K1.out)];exact K1.out
 have q2:w3.cell? ⟨g,o + 21 + 20,none⟩=some (.slice (some ⟨g2,o2,none⟩) 1 cap2):=by rw [hb23.cell (World.block_lt_of_cell? w1 _ K2.out)];exact K2.out
 have q3:w3.cell? ⟨g2,o2 + 26,none⟩=some (.slice a3 2 cap3):=by rw [hb23.cell (World.block_lt_of_cell? w1 _ K3.out)];exact K3.out
 have q4:w3.cell? ⟨w1.heap.size,0,none⟩=some (.int .i64 0):=by rw [hb33.cell (World.block_lt_of_cell? w2 _ k4)];exact k4
 have q5:w3.cell? ⟨w1.heap.size,1,none⟩=some (.int .i64 0):=by rw [hb33.cell (World.block_lt_of_cell? w2 _ k5)];exact k5
 have q6:w3.cell? ⟨w2.heap.size,0,none⟩=some (.int .i64 30):=((Holds.new w2 26 #[.int .i64 30,.int .i64 11]).belowAll hB3).cell 0
 have q7:w3.cell? ⟨w2.heap.size,1,none⟩=some (.int .i64 11):=((Holds.new w2 26 #[.int .i64 30,.int .i64 11]).belowAll hB3).cell 1
 have HB4:=Lib.hid (HB3.out.trans (hB3.mono HB3.out.size))
 unfold Ast.cells mish
 rw [hn]
 clear k4 k5 HC hv hb23 hb33 hB3 K1 K2 K3
 go_upto_region 4 with (fail)
 obtain ⟨w4,hw4⟩:∃ W,W=(w3.alloc (.cells #[.int .i64 (ex.kind:Int),.int .i64 ex.n,.string ⟨#[43]⟩,.string ⟨ex.label.toArray⟩,.slice xa1 xn1 xc1,.slice xa2 xn2 xc2,.slice xa3 xn3 xc3,.slice xa4 xn4 xc4,.slice xa5 xn5 xc5] 41)).alloc (.cells #[.int .i64 0,.int .i64 0] 26):=⟨_,rfl⟩
 have hb4:Below w3.heap.size w3 w4:=by rw [hw4];exact ((Below.refl w3.heap.size w3).alloc (Nat.le_refl _) _).alloc (by simp) _
 have p1:=hb4.cell (World.block_lt_of_cell? w3 _ q1)
 rw [q1] at p1
 have p2:=hb4.cell (World.block_lt_of_cell? w3 _ q2)
 rw [q2] at p2
 have p3:=hb4.cell (World.block_lt_of_cell? w3 _ q3)
 rw [q3] at p3
 have p4:=hb4.cell (World.block_lt_of_cell? w3 _ q4)
 rw [q4] at p4
 have p5:=hb4.cell (World.block_lt_of_cell? w3 _ q5)
 rw [q5] at p5
 have p6:=hb4.cell (World.block_lt_of_cell? w3 _ q6)
 rw [q6] at p6
 have p7:=hb4.cell (World.block_lt_of_cell? w3 _ q7)
 rw [q7] at p7
 have p8:w4.cell? ⟨w3.heap.size,2,none⟩=some (.string ⟨#[43]⟩):=by rw [hw4];exact ((Holds.new w3 41 _).alloc _).cell 2
 have p9:w4.cell? ⟨w3.heap.size + 1,0,none⟩=some (.int .i64 0):=by
  rw [hw4]
  simp
 have p10:w4.cell? ⟨w3.heap.size + 1,1,none⟩=some (.int .i64 0):=by
  rw [hw4]
  simp
 have HB5:=Lib.hid (HB4.out.trans (hb4.mono HB4.out.size))
 rw [← hw4]
 clear hw4 q1 q2 q3 q4 q5 q6 q7 hb4 HC
 go_wp2
 go_ret
 exact ⟨rfl,HB5.out⟩
end Go.Proofs.YtpoghableadkcaaGreatDoor
end
