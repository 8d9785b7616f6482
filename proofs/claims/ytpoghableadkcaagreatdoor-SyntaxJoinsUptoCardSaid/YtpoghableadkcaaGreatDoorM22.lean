/- Beg, Exx, Exo, joined. -/
import Derived.Test.YtpoghableadkcaaGreatDoorM20
import Derived.Test.YtpoghableadkcaaGreatDoorM04
import Derived.Test.YtpoghableadkcaaGreatDoorDep2
import Derived.Test.YtpoghableadkcaaGreatDoorM18
import Derived.Test.YtpoghableadkcaaGreatDoorM15
section
/- A parser is begun. -/
namespace Go.Proofs.YtpoghableadkcaaGreatDoor
open Go.RowKit
set_option linter.unusedVariables false
set_option linter.unusedSimpArgs false

/-- What is asked of a world: the tables that the lexer looks at. -/
def Wd (w:World):Prop:=(∃ m,w.cell? ⟨1,0,none⟩=some (.int .i64 m))∧1 < w.heap.size∧Lib.TabIs Tryz.prog w "strings.asciiSpace" .u8 Lib.asciiSpaceTab
theorem Wd.below {w w':World} (h:Wd w) (hb:Below w.heap.size w w'):Wd w':=by
 obtain ⟨⟨m,h1⟩,h2,h3⟩:=h
 exact ⟨⟨m,by rw [hb.cell (by exact h2)];exact h1⟩,Nat.lt_of_lt_of_le h2 hb.size,tab_same h3 (hb.block 0 (by omega))⟩
theorem tokens_ok {s:ByteArray} {L:List Tk} (h:tokensOf s=.ok L):s.size ≤ 65536∧L.length ≤ 65536∧(envOf s L).S.length ≤ 65536∧EnvOk (envOf s L)∧∀ t ∈ L,t.at_ < 65536∧t.kind ≤ 4∧t.num < 4294967296:=by
 unfold tokensOf at h
 by_cases hs:65536 < s.size
 ·rw [if_pos hs] at h;cases h
 ·rw [if_neg hs] at h
  have h0:tk 0 s.data.toList=.ok L:=by simpa [rest] using h
  have hl:s.data.toList.length=s.size:=by rw [Array.length_toList];rfl
  obtain ⟨h1,h2⟩:=tk_bnd _ 0 _ _ (Nat.lt_succ_self _) h0
  refine ⟨by omega,by omega,by show s.data.toList.length ≤ _;omega,envOk h0,fun t ht=>?_⟩
  have:=h2 t ht
  omega
theorem Par.start {w W:World} {s:ByteArray} {L:List Tk} {v:Value} (ht:tokensOf s=.ok L) (ho:W.ownsRow w.heap.size 93 4 v L.length (flatT L)):
  Par (W.alloc (.cells #[.string s,v,.int .i64 0] 63)) W.heap.size v (envOf s L) 0:=by
 obtain ⟨h1,h2,h3,_,h5⟩:=tokens_ok ht
 obtain ⟨a,cap,hv,hc1,hc2⟩:=owns_form ho
 have hn:=Holds.new W 63 #[.string s,v,.int .i64 0]
 refine ⟨?_,⟨a,cap,hv,hc1,hc2,fun hl=>?_⟩,Nat.zero_le _,h2,h3,h5⟩
 ·have:(⟨(envOf s L).S.toArray⟩:ByteArray)=s:=by cases s;simp [envOf]
  rw [this]
  exact hn
 ·have hl':0 < L.length:=hl
  rcases ho.2 with ⟨h0,_⟩ | ⟨g,cap',cur,hv',hb,hg,hnc,hcm,hcs,htt⟩
  ·omega
  ·have ho2:=ho
   rw [hv'] at ho2
   rw [hv] at hv'
   injection hv' with hv' _ _
   have hG:Holds W g 93 cur.toList:=by unfold Holds;simpa using hg
   refine ⟨g,cur.toList,hv',hG.lt,hG.alloc _,fun j hj=>?_⟩
   have:=ho2.cellAt (g:=g) (j:=j) hj
   show cur.toList[j]?=(flatT L)[j]?
   rw [← this,hG.cell]
def BegunPost (s:ByteArray) (w:World) (e:Ending) (w':World):Prop:=
 Below w.heap.size w w'∧match tokensOf s with
 | .ok L=>∃ p vl,e=.returned (.pointer (some ⟨p,0,none⟩))∧w.heap.size ≤ p∧Par w' p vl (envOf s L) 0
 | .bad c a=>e=.panicked (badChain c a)
set_option maxHeartbeats 1600000 in
set_option maxRecDepth 100000 in
theorem begunFn {s:ByteArray} {w:World} (hw:Wd w):Calls Tryz.prog 17 #[.string s] w (BegunPost s w):=by
 obtain ⟨⟨m,h1⟩,h2,h3⟩:=hw
 have hC:=lexTokens s m w h1 h2 h3
 unfold TokensPost at hC
 unfold BegunPost
 cases ht:tokensOf s with
 | bad c a=>
  rw [ht] at hC
  have HC:=Lib.hid hC
  clear hC h1 h2 h3
  go_enter Tryz.func17,Tryz.ntmps17
  go_wp2_with (fail)
  refine HC.out.mono ?_
  rintro e w1 ⟨hb,hc0,rfl⟩
  have hc1:((c:Int) == 0)=false:=by simp;omega
  have HB:=Lib.hid (hb.alloc hb.size (.cells #[.int .i64 (c:Int),.int .i64 (a:Int)] 26))
  clear hb HC
  unfold mish
  go_wp2
  exact ⟨rfl,HB.out,rfl⟩
 | ok L=>
  rw [ht] at hC
  have HC:=Lib.hid hC
  have HT:=Lib.hid ht
  clear hC h1 h2 h3 ht
  go_enter Tryz.func17,Tryz.ntmps17
  go_wp2_with (fail)
  refine HC.out.mono ?_
  rintro e w1 ⟨hb,v,rfl,ho⟩
  have hb1:Below w1.heap.size w1 (w1.alloc (.cells #[.int .i64 0,.int .i64 0] 26)):=(Below.refl _ _).alloc (Nat.le_refl _) _
  have hP:=Par.start (w:=w) HT.out (owns_below ho hb1)
  have HP:=Lib.hid hP
  have HB:=Lib.hid ((hb.alloc hb.size (.cells #[.int .i64 0,.int .i64 0] 26)).alloc (by have:=hb.size;simp;omega) (.cells #[.string s,v,.int .i64 0] 63))
  have hsz:=hb.size
  obtain ⟨av,cv,hv,_⟩:=owns_form ho
  subst hv
  clear hb ho hb1 hP HC
  unfold mish
  go_wp2
  go_ret
  exact ⟨HB.out,_,_,rfl,by first | omega | (simp;omega),by simpa using HP.out⟩
end Go.Proofs.YtpoghableadkcaaGreatDoor
end
section
/- Expr: what stands behind its door. -/
namespace Go.Proofs.YtpoghableadkcaaGreatDoor
open Go.RowKit
set_option linter.unusedVariables false
set_option linter.unusedSimpArgs false

def ExprP (eb:Nat) (W:World) (r:Res Ast) (e:Ending) (w':World):Prop:=
 match r with
 | .ok x=>Fp eb W w'∧e=.returned (.tuple #[])∧∃ c,Holds w' eb 41 c∧AstG (From W.heap.size) w' x c
 | .bad c a=>Below W.heap.size W w'∧e=.panicked (badChain c a)
def ExprIn (f:Nat) (s:ByteArray) (eb:Nat) (W:World) (e:Ending) (w':World):Prop:=ExprP eb W (exprRes f s) e w'
theorem below_drewN {B:Nat} {w W:World} (h:Below B w W) (n:Nat):Below B w (W.drewN n):=⟨h.os,h.tape,h.output,h.size,h.block⟩
set_option maxHeartbeats 1600000 in
set_option maxRecDepth 1000000 in
theorem exprIn {f:Nat} {s:ByteArray} {W:World} (hw:Wd W) (hf:exprFu f s) {tb eb:Nat} (ht:Holds W tb 9 [.string s]) {z:List Value} (hz:z.length=9) (he:Holds W eb 41 z):
  Calls Tryz.prog 28 #[.pointer (some ⟨tb,0,none⟩),.pointer (some ⟨eb,0,none⟩)] W (ExprIn f s eb W):=by
 have hebW:=he.lt
 have hfd:=hf
 unfold exprFu at hf
 have HC0:=Lib.hid (begunFn (s:=s) hw)
 have c0:W.cell? ⟨tb,0,none⟩=some (.string s):=ht.cell 0
 have HE:=Lib.hid he
 have HFd:=Lib.hid hfd
 unfold BegunPost at HC0
 unfold ExprIn
 obtain ⟨R,hR⟩:∃ r,exprRes f s=r:=⟨_,rfl⟩
 rw [hR]
 unfold exprRes at hR
 cases htk:tokensOf s with
 | bad c a=>
  rw [htk] at HC0 hR
  simp only at hR
  subst hR
  clear hw hf hfd ht he htk
  go_enter Tryz.func28,Tryz.ntmps28
  go_wp2_with (fail)
  refine HC0.out.mono ?_
  rintro e w1 ⟨hb,rfl⟩
  exact ⟨rfl,hb,rfl⟩
 | ok L=>
  rw [htk] at HC0 hR
  simp only at hR
  have hfx:=hf L htk
  obtain ⟨E,hE⟩:∃ E,envOf s L=E:=⟨_,rfl⟩
  have hEL:E.L=L:=by rw [← hE];rfl
  have hC0:=HC0.out
  simp only at hC0
  rw [hE] at hfx hC0 hR
  replace HC0:=Lib.hid hC0
  have HEL:=Lib.hid hEL
  have HR:=Lib.hid hR
  clear hw hf hfd ht he htk hE hEL hC0 hR
  have HX:=Lib.hid hfx
  clear hfx
  go_enter Tryz.func28,Tryz.ntmps28
  go_wp2_with (fail)
  refine HC0.out.mono ?_
  rintro e w1 ⟨hb,p,vl,rfl,hp,hP⟩
  have hC:=(exprOk E f).expr (lvl:=0) hP (by omega) HX.out
  have HP:=Lib.hid hP
  have HB1:=Lib.hid hb
  clear hb HC0 hP
  have HC:=Lib.hid hC
  clear hC
  go_wp2_with (fail)
  cases hx:expr E f 0 0 with
  | out=>exact absurd hx HX.out
  | bad c a=>
   have hC:=HC.out
   rw [hx] at hC
   refine hC.mono ?_
   rintro e w2 ⟨rfl,hF⟩
   have hr:=HR.out
   rw [hx] at hr
   have hP:ExprP eb W R (.panicked (badChain c a)) w2:=by
    rw [← hr]
    exact ⟨HB1.out.trans (hF.to_below HB1.out.size fun k hk e=>by omega),rfl⟩
   exact ⟨rfl,hP⟩
  | ok x j=>
   have hC:=HC.out
   rw [hx] at hC
   refine hC.mono ?_
   rintro e w2 ⟨v,rfl,⟨vn,vi,vh,vk,va,rfl,hv⟩,hP2,hF2⟩
   have hB2:Below W.heap.size W w2:=HB1.out.trans (hF2.to_below HB1.out.size fun k hk e=>by omega)
   obtain ⟨xa1,xn1,xc1,xa2,xn2,xc2,xa3,xn3,xc3,xa4,xn4,xc4,xa5,xn5,xc5,rfl,rfl,rfl,rfl,rfl⟩:=hv.forms
   have hb3:Below w2.heap.size w2 (w2.alloc (.cells #[.int .i64 (x.kind:Int),.int .i64 x.n,.string ⟨x.name.toArray⟩,.string ⟨x.label.toArray⟩,.slice xa1 xn1 xc1,.slice xa2 xn2 xc2,.slice xa3 xn3 xc3,.slice xa4 xn4 xc4,.slice xa5 xn5 xc5] 41)):=(Below.refl _ _).alloc (Nat.le_refl _) _
   have hP3:=hP2.alloc (.cells #[.int .i64 (x.kind:Int),.int .i64 x.n,.string ⟨x.name.toArray⟩,.string ⟨x.label.toArray⟩,.slice xa1 xn1 xc1,.slice xa2 xn2 xc2,.slice xa3 xn3 xc3,.slice xa4 xn4 xc4,.slice xa5 xn5 xc5] 41)
   obtain ⟨a0,cp,hvl,_⟩:=hP2.form
   obtain ⟨N,hN⟩:∃ N,E.L.length=N:=⟨_,rfl⟩
   have k1:(w2.alloc (.cells #[.int .i64 (x.kind:Int),.int .i64 x.n,.string ⟨x.name.toArray⟩,.string ⟨x.label.toArray⟩,.slice xa1 xn1 xc1,.slice xa2 xn2 xc2,.slice xa3 xn3 xc3,.slice xa4 xn4 xc4,.slice xa5 xn5 xc5] 41)).cell? ⟨p,1,none⟩=some (.slice a0 N cp):=by rw [← hN,← hvl];exact hP3.cells.2.1
   have k2:(w2.alloc (.cells #[.int .i64 (x.kind:Int),.int .i64 x.n,.string ⟨x.name.toArray⟩,.string ⟨x.label.toArray⟩,.slice xa1 xn1 xc1,.slice xa2 xn2 xc2,.slice xa3 xn3 xc3,.slice xa4 xn4 xc4,.slice xa5 xn5 xc5] 41)).cell? ⟨p,2,none⟩=some (.int .i64 (j:Int)):=hP3.cells.2.2.1
   have HP3:=Lib.hid hP3
   have HB3:=Lib.hid (hB2.trans (hb3.mono hB2.size))
   have HX3:=Lib.hid (Holds.new w2 41 #[.int .i64 (x.kind:Int),.int .i64 x.n,.string ⟨x.name.toArray⟩,.string ⟨x.label.toArray⟩,.slice xa1 xn1 xc1,.slice xa2 xn2 xc2,.slice xa3 xn3 xc3,.slice xa4 xn4 xc4,.slice xa5 xn5 xc5])
   have hv1:AstF (From W.heap.size) w2 x (.slice xa1 xn1 xc1) (.slice xa2 xn2 xc2) (.slice xa3 xn3 xc3) (.slice xa4 xn4 xc4) (.slice xa5 xn5 xc5):=hv.mono (fun k hk _=>Nat.le_trans HB1.out.size hk)
   have HV3:=Lib.hid (hv1.up (Keep.below hb3))
   have hle:j ≤ N:=by rw [← hN];exact hP2.le
   have hNL:L.length=N:=by rw [← HEL.out];exact hN
   have HN:=Lib.hid hN
   have HNL:=Lib.hid hNL
   have HW:=Lib.hid (HE.out.below HB3.out HE.out.lt)
   unfold Ast.val
   clear hB2 hb3 hP3 hvl hv1 hv hP2 hF2 hC HC HP hN hNL
   by_cases hj:j < N
   ·have hjd:decide ((j:Int) < (N:Int))=true:=decide_eq_true (by omega)
    have hji:(j:Int) < (N:Int):=by omega
    have hr:=HR.out
    rw [hx] at hr
    simp only at hr
    rw [if_pos (by rw [HNL.out];exact hj)] at hr
    replace HR:=Lib.hid hr
    have HJ:=Lib.hid hj
    clear hr
    clear hj
    go_wp2
    go_quiet (fail)
    have HCW:=Lib.hid (wrongFn (HP3.out.drewN nq))
    have HBW:Hid (Below W.heap.size W ((w2.alloc (.cells #[.int .i64 (x.kind:Int),.int .i64 x.n,.string ⟨x.name.toArray⟩,.string ⟨x.label.toArray⟩,.slice xa1 xn1 xc1,.slice xa2 xn2 xc2,.slice xa3 xn3 xc3,.slice xa4 xn4 xc4,.slice xa5 xn5 xc5] 41)).drewN nq)):=below_drewN HB3.out nq
    go_wp2_with (fail)
    refine HCW.out.mono ?_
    rintro e w4 ⟨rfl,hb⟩
    have hwc:wrongC E j=(30,placeAt E j):=by
     unfold wrongC placeAt
     rw [List.getElem?_eq_getElem (by rw [HN.out];exact HJ.out)]
    have hP:ExprP eb W R (.panicked (badChain (wrongC E j).1 (wrongC E j).2)) w4:=by
     rw [← HR.out,hwc]
     exact ⟨HBW.out.trans (hb.mono HBW.out.size),rfl⟩
    exact ⟨rfl,hP⟩
   ·have hjd:decide ((j:Int) < (N:Int))=false:=decide_eq_false (by omega)
    have hji:¬ (j:Int) < (N:Int):=by omega
    have hr:=HR.out
    rw [hx] at hr
    simp only at hr
    rw [if_neg (by rw [HNL.out];exact hj)] at hr
    clear HR
    have HR:=Lib.hid hr
    clear hj hr
    go_wp2
    go_quiet (fail)
    obtain ⟨w4,hw4⟩:∃ w4,w4=(w2.alloc (.cells #[.int .i64 (x.kind:Int),.int .i64 x.n,.string ⟨x.name.toArray⟩,.string ⟨x.label.toArray⟩,.slice xa1 xn1 xc1,.slice xa2 xn2 xc2,.slice xa3 xn3 xc3,.slice xa4 xn4 xc4,.slice xa5 xn5 xc5] 41)).drewN nq:=⟨_,rfl⟩
    have hX4:Holds w4 w2.heap.size 41 [.int .i64 (x.kind:Int),.int .i64 x.n,.string ⟨x.name.toArray⟩,.string ⟨x.label.toArray⟩,.slice xa1 xn1 xc1,.slice xa2 xn2 xc2,.slice xa3 xn3 xc3,.slice xa4 xn4 xc4,.slice xa5 xn5 xc5]:=by rw [hw4];exact HX3.out
    have hV4:AstF (From W.heap.size) w4 x (.slice xa1 xn1 xc1) (.slice xa2 xn2 xc2) (.slice xa3 xn3 xc3) (.slice xa4 xn4 xc4) (.slice xa5 xn5 xc5):=by
     rw [hw4]
     refine AstF.up ?_ _ HV3.out
     intro k _ _
     rfl
    have hB4:Below W.heap.size W w4:=by rw [hw4];exact below_drewN HB3.out nq
    have hE4:Holds w4 eb 41 z:=by rw [hw4];exact HW.out
    have HCA:=Lib.hid (astD x (P:=From W.heap.size) (w:=w4) (c:=[.int .i64 (x.kind:Int),.int .i64 x.n,.string ⟨x.name.toArray⟩,.string ⟨x.label.toArray⟩,.slice xa1 xn1 xc1,.slice xa2 xn2 xc2,.slice xa3 xn3 xc3,.slice xa4 xn4 xc4,.slice xa5 xn5 xc5]) ⟨_,_,_,_,_,rfl,hV4⟩)
    rw [← hw4]
    have HX4:=Lib.hid hX4
    have HV4:=Lib.hid hV4
    have HB4:=Lib.hid hB4
    have HE4:=Lib.hid hE4
    obtain ⟨dx,hdx⟩:∃ d,dA x=d:=⟨_,rfl⟩
    rw [hdx] at HCA
    have hr:=HR.out
    rw [hdx] at hr
    replace HR:=Lib.hid hr
    clear hr
    clear hX4 hV4 hB4 hE4 hw4 HX3 HV3 HB3 HW HP3 k1 k2 hdx
    go_wp2_with (refine wpList_load_mid rfl 41 _ rfl w2.heap.size 0 rfl [.int .i64 (x.kind:Int),.int .i64 x.n,.string ⟨x.name.toArray⟩,.string ⟨x.label.toArray⟩,.slice xa1 xn1 xc1,.slice xa2 xn2 xc2,.slice xa3 xn3 xc3,.slice xa4 xn4 xc4,.slice xa5 xn5 xc5] _ (HX4.out.range (n:=9) rfl) Tryz.underlying41 rfl sz_Ast ?_)
    refine HCA.out.mono ?_
    rintro e w5 ⟨rfl,hb5⟩
    have HX5:=Lib.hid (HX4.out.belowAll hb5)
    have HV5:=Lib.hid (HV4.out.up (Keep.below hb5))
    have HB5:=Lib.hid (HB4.out.trans (hb5.mono HB4.out.size))
    have HE5:=Lib.hid (HE4.out.belowAll hb5)
    clear HX4 HV4 HB4 HE4 HCA hb5
    by_cases hd:60 < dx
    ·have hdd:decide (60 < dx)=true:=decide_eq_true hd
     have hr:=HR.out
     rw [if_pos hd] at hr
     have hP:ExprP eb W R (.panicked (badChain 3 0)) w5:=by
      rw [← hr]
      exact ⟨HB5.out,rfl⟩
     replace HR:=Lib.hid hP
     clear hr hP
     go_wp2
     exact ⟨rfl,HR.out⟩
    ·have hdd:decide (60 < dx)=false:=decide_eq_false hd
     have hr:=HR.out
     rw [if_neg hd] at hr
     replace HR:=Lib.hid hr
     clear hd hr
     go_wp2_with (first | (refine wpList_load_mid rfl 41 _ rfl w2.heap.size 0 rfl [.int .i64 (x.kind:Int),.int .i64 x.n,.string ⟨x.name.toArray⟩,.string ⟨x.label.toArray⟩,.slice xa1 xn1 xc1,.slice xa2 xn2 xc2,.slice xa3 xn3 xc3,.slice xa4 xn4 xc4,.slice xa5 xn5 xc5] _ (HX5.out.range (n:=9) rfl) Tryz.underlying41 rfl sz_Ast ?_) | (refine wpList_storeB rfl 41 _ _ rfl eb 0 [.int .i64 (x.kind:Int),.int .i64 x.n,.string ⟨x.name.toArray⟩,.string ⟨x.label.toArray⟩,.slice xa1 xn1 xc1,.slice xa2 xn2 xc2,.slice xa3 xn3 xc3,.slice xa4 xn4 xc4,.slice xa5 xn5 xc5] rfl rfl HE5.out (by rw [hz];exact Nat.le_of_ble_eq_true rfl) sz_Ast (by simp [Value.oneCell']) ?_))
     refine Named.mk (fun w6 hW=>?_)
     have hh:=HE5.out.stored hW (by rw [hz];exact Nat.le_of_ble_eq_true rfl)
     rw [List.take_zero,List.nil_append,List.drop_of_length_le (by rw [hz];exact Nat.le_of_ble_eq_true rfl),List.append_nil] at hh
     have hF6:Fp eb W w6:=by rw [hW];exact Fp.trans (Fp.of_below HB5.out) (Fp.selfR _ _ (Fp.refl _ _))
     have hV6:AstF (From W.heap.size) w6 x (.slice xa1 xn1 xc1) (.slice xa2 xn2 xc2) (.slice xa3 xn3 xc3) (.slice xa4 xn4 xc4) (.slice xa5 xn5 xc5):=by rw [hW];exact HV5.out.up (Keep.setR (by show ¬ _;exact Nat.not_le.2 hebW) _ _)
     have HH:=Lib.hid hh
     have HF6:=Lib.hid hF6
     have HV6:=Lib.hid hV6
     clear hW hh hF6 hV6
     go_wp2
     have hP:ExprP eb W R (.returned (.tuple #[])) w6:=by
      rw [← HR.out]
      exact ⟨HF6.out,rfl,_,HH.out,_,_,_,_,_,rfl,HV6.out⟩
     exact bodyPost_end (v:=.tuple #[]) (by simp [results,Tryz.results28,go_sem]) rfl hP
end Go.Proofs.YtpoghableadkcaaGreatDoor
end
section
/- Expr, from outside. -/
namespace Go.Proofs.YtpoghableadkcaaGreatDoor
open Go.RowKit
set_option linter.unusedVariables false
set_option linter.unusedSimpArgs false

theorem holds_again {W:World} {b:Nat} {t:TypeId} {cs:List Value} (h:Holds W b t cs):Holds (setR W b 0 cs) b t cs:=by
 have:=Holds.setR cs 0 h
 rwa [putR_all rfl] at this
section
variable {P:Program} {ops:Array Oper} {Q:Exit→Act→World→Prop} {S:World→Prop} {af:Act} {i:Nat} {o:Oper}
/-- A thing is loaded. -/
theorem calm_load (ty:TypeId) (s:Nat) (hi:ops[i]?=some o) (hg:o.guard=none) (hs:readsOk ops o s=true) (ho:o.op=.load ty (.tmp s))
  {b:Nat} (hx:af.eval (.tmp s)=.pointer (some ⟨b,0,none⟩)) (v:Value) (hv:∀ d,o.dst=some d→d < af.tmps.size→af.tmps[d]?=some v) (h:∀ w,S w→(Instr.loadAt ty (.pointer (some ⟨b,0,none⟩))).run P w=.ok v w):CalmAt P ops Q S af i:=
 ⟨o,v,[s],hi,hg,by simpa using hs,hv,fun a w K hr hS hK=>by
  have h1:a.eval (.tmp s)=.pointer (some ⟨b,0,none⟩):=(hr s (by simp)).trans hx
  unfold Oper.wp execOp
  simp only [ho,h1,Sem.run_bind,h w hS,Result.andThen_ok,Sem.run_pure]
  exact hK w hS⟩
/-- A thing is stored where it lies. -/
theorem calm_store (ty:TypeId) (s u:Nat) (hi:ops[i]?=some o) (hg:o.guard=none) (hd:o.dst=none) (hs:readsOk ops o s=true) (hu:readsOk ops o u=true) (ho:o.op=.store ty (.tmp s) (.tmp u))
  {b:Nat} (hx:af.eval (.tmp s)=.pointer (some ⟨b,0,none⟩)) {v:Value} (hy:af.eval (.tmp u)=v) (h:∀ w,S w→∃ w',(Instr.storeAt ty (.pointer (some ⟨b,0,none⟩)) v).run P w=.ok () w'∧S w'):CalmAt P ops Q S af i:=
 ⟨o,undef,[s,u],hi,hg,by simp [hs,hu],fun d h=>(by rw [hd] at h;cases h),fun a w K hr hS hK=>by
  have h1:a.eval (.tmp s)=.pointer (some ⟨b,0,none⟩):=(hr s (by simp)).trans hx
  have h2:a.eval (.tmp u)=v:=(hr u (by simp)).trans hy
  obtain ⟨w',h3,h4⟩:=h w hS
  unfold Oper.wp execOp
  simp only [ho,h1,h2,Sem.run_bind,h3,Result.andThen_ok,Sem.run_pure]
  exact hK w' h4⟩
end
/-- What stands while the two results are stored anew. -/
structure Two (w:World) (te:TypeId) (xs ms:List Value) (w1 w':World):Prop where
 below:Below w.heap.size w w'
 eb:Holds w' (w.heap.size + 1) te xs
 mb:Holds w' (w.heap.size + 2) 26 ms
 keep:Keep (From (w.heap.size + 4)) w1 w'
 size:w1.heap.size ≤ w'.heap.size
section
variable {w w1 w':World} {te:TypeId} {xs ms:List Value}
theorem Two.set (h:Two w te xs ms w1 w') {b:Nat} {ys:List Value} (hb1:w.heap.size ≤ b) (hb2:b < w.heap.size + 4) (he:Holds (setR w' b 0 ys) (w.heap.size + 1) te xs) (hm:Holds (setR w' b 0 ys) (w.heap.size + 2) 26 ms):Two w te xs ms w1 (setR w' b 0 ys):=
 ⟨h.below.trans ((Fp.selfR ys 0 (Fp.refl b w')).to_below h.below.size fun k hk e=>by omega),he,hm,fun k hk hs=>((Fp.selfR ys 0 (Fp.refl b w')).block k (Nat.lt_of_lt_of_le hs h.size) fun e=>(by have:w.heap.size + 4 ≤ k:=hk;omega)).trans (h.keep k hk hs),by rw [setR_size];exact h.size⟩
theorem Two.setE (h:Two w te xs ms w1 w'):Two w te xs ms w1 (setR w' (w.heap.size + 1) 0 xs):=h.set (by omega) (by omega) (holds_again h.eb) (Holds.farR (by omega) _ _ h.mb)
theorem Two.setM (h:Two w te xs ms w1 w'):Two w te xs ms w1 (setR w' (w.heap.size + 2) 0 ms):=h.set (by omega) (by omega) (Holds.farR (by omega) _ _ h.eb) (holds_again h.mb)
theorem Two.drew (h:Two w te xs ms w1 w'):Two w te xs ms w1 w'.drew:=⟨below_drewN h.below 1,h.eb,h.mb,h.keep,h.size⟩
end
theorem results_cells {P:Program} {fn:Func} {t u:Tmp} {ty1 ty2:TypeId} (h:fn.results=#[.cell t ty1,.cell u ty2]) {tmps:Array Value} {a1 a2:Addr} {v1 v2:Value} {w:World} (h1:tmps.getD t undef=.pointer (some a1)) (h2:tmps.getD u undef=.pointer (some a2)) (e1:(loadVar ty1 a1).run P w=.ok v1 w) (e2:(loadVar ty2 a2).run P w=.ok v2 w):
  (results fn tmps).run P w=.ok (.tuple #[v1,v2]) w:=by
 rw [Array.getD_eq_getD_getElem?] at h1 h2
 simp [results,h,h1,h2,asAddr,Sem.run_bind,e1,e2]
theorem sz_Mis:(Tryz.prog.info? 26).map (·.size)=some 2:=by kernel_rfl
def ExprPost (f:Nat) (s:ByteArray) (w:World) (e:Ending) (w':World):Prop:=
 Below w.heap.size w w'∧match exprRes f s with
 | .ok x=>∃ c,e=.returned (.tuple #[.agg c.toArray,mish 0 0])∧AstG (From w.heap.size) w' x c
 | .bad c a=>e=.returned (.tuple #[.agg #[.int .i64 0,.int .i64 0,.string ⟨#[]⟩,.string ⟨#[]⟩,.slice none 0 0,.slice none 0 0,.slice none 0 0,.slice none 0 0,.slice none 0 0],mish c a])
/-- What lies behind what is caught. -/
def ExprR (f:Nat) (s:ByteArray) (w:World) (eb mb:Nat) (r:Option (Nat × Nat)) (w':World):Prop:=
 Below w.heap.size w w'∧Holds w' mb 26 [.int .i64 0,.int .i64 0]∧match exprRes f s with
 | .ok x=>r=none∧∃ c,Holds w' eb 41 c∧AstG (From (w.heap.size + 4)) w' x c
 | .bad c a=>r=some (c,a)∧Holds w' eb 41 [.int .i64 0,.int .i64 0,.string ⟨#[]⟩,.string ⟨#[]⟩,.slice none 0 0,.slice none 0 0,.slice none 0 0,.slice none 0 0,.slice none 0 0]
set_option maxHeartbeats 4000000 in
set_option maxRecDepth 1000000 in
theorem exprTop {f:Nat} {s:ByteArray} {w:World} (hw:Wd w) (hf:exprFu f s):Calls Tryz.prog 11 #[.string s] w (ExprPost f s w):=by
 have hmf:∀ (fn:Fn) (first cap:Array Value) (w:World),(Instr.makeFunc fn first cap).run Tryz.prog w=.ok (.func fn first cap) w:=fun _ _ _ _=>rfl
 obtain ⟨W,hW⟩:∃ W,W=((w.alloc (.cells #[.string s] 9)).alloc (.cells #[.int .i64 0,.int .i64 0,.string ⟨#[]⟩,.string ⟨#[]⟩,.slice none 0 0,.slice none 0 0,.slice none 0 0,.slice none 0 0,.slice none 0 0] 41)).alloc (.cells #[.int .i64 0,.int .i64 0] 26):=⟨_,rfl⟩
 have hsz:W.heap.size=w.heap.size + 3:=by rw [hW];simp
 have hB0:Below w.heap.size w W:=by rw [hW];exact (((Below.refl _ _).alloc (Nat.le_refl _) _).alloc (by simp) _).alloc (by simp;omega) _
 have hT:Holds W w.heap.size 9 [.string s]:=by rw [hW];exact ((Holds.new w 9 #[.string s]).alloc _).alloc _
 have hE:Holds W (w.heap.size + 1) 41 [.int .i64 0,.int .i64 0,.string ⟨#[]⟩,.string ⟨#[]⟩,.slice none 0 0,.slice none 0 0,.slice none 0 0,.slice none 0 0,.slice none 0 0]:=by
  rw [hW]
  have:=(Holds.new (w.alloc (.cells #[.string s] 9)) 41 #[.int .i64 0,.int .i64 0,.string ⟨#[]⟩,.string ⟨#[]⟩,.slice none 0 0,.slice none 0 0,.slice none 0 0,.slice none 0 0,.slice none 0 0]).alloc (.cells #[.int .i64 0,.int .i64 0] 26)
  rwa [show (w.alloc (.cells #[.string s] 9)).heap.size=w.heap.size + 1 by simp] at this
 have hM:Holds W (w.heap.size + 2) 26 [.int .i64 0,.int .i64 0]:=by
  rw [hW]
  have:=Holds.new ((w.alloc (.cells #[.string s] 9)).alloc (.cells #[.int .i64 0,.int .i64 0,.string ⟨#[]⟩,.string ⟨#[]⟩,.slice none 0 0,.slice none 0 0,.slice none 0 0,.slice none 0 0,.slice none 0 0] 41)) 26 #[.int .i64 0,.int .i64 0]
  rwa [show ((w.alloc (.cells #[.string s] 9)).alloc (.cells #[.int .i64 0,.int .i64 0,.string ⟨#[]⟩,.string ⟨#[]⟩,.slice none 0 0,.slice none 0 0,.slice none 0 0,.slice none 0 0,.slice none 0 0] 41)).heap.size=w.heap.size + 2 by simp] at this
 have hbc:Below W.heap.size W (W.alloc (.cells #[.int .i64 0,.int .i64 0] 26)):=(Below.refl _ _).alloc (Nat.le_refl _) _
 have hin:=exprIn (f:=f) (s:=s) ((hw.below hB0).below hbc) hf (hT.alloc (.cells #[.int .i64 0,.int .i64 0] 26)) rfl (hE.alloc (.cells #[.int .i64 0,.int .i64 0] 26))
 have hC:=caughtFn (g:=28) (cs:=#[.pointer (some ⟨w.heap.size,0,none⟩),.pointer (some ⟨w.heap.size + 1,0,none⟩)]) (enters_of Tryz.func28 (by decide) rfl) (w:=W) (ExprR f s w (w.heap.size + 1) (w.heap.size + 2)) (fun r W1 W2 hlt hF h=>by
  obtain ⟨h1,h2,h3⟩:=h
  refine ⟨h1.trans (hF.to_below h1.size fun k hk e=>by omega),Fr.holds hF h2 (by show ¬ _=_;omega),?_⟩
  cases hr:exprRes f s with
  | ok x=>
   rw [hr] at h3
   obtain ⟨h4,c,h5,vn,vi,vh,vk,va,h6,h7⟩:=h3
   exact ⟨h4,c,Fr.holds hF h5 (by show ¬ _=_;omega),vn,vi,vh,vk,va,h6,h7.up (Keep.of_fp hF (by show ¬ _;omega))⟩
  | bad c a=>
   rw [hr] at h3
   exact ⟨h3.1,Fr.holds hF h3.2 (by show ¬ _=_;omega)⟩) (hin.mono fun e w' h=>by
  unfold ExprIn at h
  unfold ExprR
  have hlt:W.heap.size < (W.alloc (.cells #[.int .i64 0,.int .i64 0] 26)).heap.size:=by simp
  cases hr:exprRes f s with
  | ok x=>
   rw [hr] at h
   obtain ⟨hF,rfl,c,h5,vn,vi,vh,vk,va,h6,h7⟩:=h
   have hB1:Below w.heap.size w w':=(hB0.trans (hbc.mono hB0.size)).trans (hF.to_below (by omega) fun k hk e=>by omega)
   exact ⟨Fr.holds hF (Holds.new W 26 #[.int .i64 0,.int .i64 0]) (by show ¬ _=_;omega),.inl ⟨_,rfl,hB1,Fr.holds hF (hM.alloc _) (by show ¬ _=_;omega),rfl,c,h5,vn,vi,vh,vk,va,h6,h7.mono (Wide.from (by simp;omega))⟩⟩
  | bad c a=>
   rw [hr] at h
   obtain ⟨hb,rfl⟩:=h
   exact ⟨(Holds.new W 26 #[.int .i64 0,.int .i64 0]).belowAll hb,.inr ⟨c,a,rfl,(hB0.trans (hbc.mono hB0.size)).trans (hb.mono (by omega)),(hM.alloc _).belowAll hb,rfl,(hE.alloc _).belowAll hb⟩⟩)
 have HC:=Lib.hid hC
 have HSZ:=Lib.hid hsz
 clear hC hin hbc hM hE hT hB0 hw hf hsz
 go_enter Tryz.func11,Tryz.ntmps11
 subst hW
 go_wp2_with (fail)
 refine HC.out.mono ?_
 rintro e w1 ⟨r,rfl,hB,hM,hr⟩
 obtain ⟨xs,c,a,hxl,hx1,htl,hE,hP⟩:∃ (xs:List Value) (c a:Nat),xs.length=9∧xs.all (·.oneCell')=true∧told r=mish c a∧Holds w1 (w.heap.size + 1) 41 xs∧∀ w2,Below w.heap.size w w2→Keep (From (w.heap.size + 4)) w1 w2→ExprPost f s w (.returned (.tuple #[.agg xs.toArray,mish c a])) w2:=by
  unfold ExprPost
  cases hx:exprRes f s with
  | ok x=>
   rw [hx] at hr
   obtain ⟨rfl,c,hE,vn,vi,vh,vk,va,rfl,hv⟩:=hr
   obtain ⟨xa1,xn1,xc1,xa2,xn2,xc2,xa3,xn3,xc3,xa4,xn4,xc4,xa5,xn5,xc5,rfl,rfl,rfl,rfl,rfl⟩:=hv.forms
   exact ⟨_,0,0,rfl,by simp [Value.oneCell',Ast.cells],rfl,hE,fun w2 hb hk=>⟨hb,_,rfl,_,_,_,_,_,rfl,(hv.up hk).mono (Wide.from (by omega))⟩⟩
  | bad c a=>
   rw [hx] at hr
   obtain ⟨rfl,hE⟩:=hr
   exact ⟨_,c,a,rfl,by simp [Value.oneCell'],rfl,hE,fun w2 hb hk=>⟨hb,rfl⟩⟩
 have c0:w1.cell? ⟨w.heap.size + 1 + 1,0,none⟩=some (.int .i64 0):=hM.cell 0
 have c1:w1.cell? ⟨w.heap.size + 1 + 1,1,none⟩=some (.int .i64 0):=hM.cell 1
 have f0:w1.frozen? ⟨w.heap.size + 1 + 1,0,none⟩=false:=hM.free 0
 have f1:w1.frozen? ⟨w.heap.size + 1 + 1,1,none⟩=false:=hM.free 1
 have hT:Two w 41 xs [.int .i64 (c:Int),.int .i64 (a:Int)] w1 ((w1.setCell ⟨w.heap.size + 1 + 1,0,none⟩ (.int .i64 (c:Int))).setCell ⟨w.heap.size + 1 + 1,1,none⟩ (.int .i64 (a:Int))):=
  ⟨hB.trans ((Fp.selfR [.int .i64 (c:Int),.int .i64 (a:Int)] 0 (Fp.refl (w.heap.size + 2) w1)).to_below hB.size fun k hk e=>by omega),Holds.farR (b':=w.heap.size + 2) (by omega) [.int .i64 (c:Int),.int .i64 (a:Int)] 0 hE,Holds.setR [.int .i64 (c:Int),.int .i64 (a:Int)] 0 hM,Keep.setR (b:=w.heap.size + 2) (by show ¬ _;omega) [.int .i64 (c:Int),.int .i64 (a:Int)] 0,by simp⟩
 have HT:=Lib.hid hT
 have HP:=Lib.hid hP
 have HXL:=Lib.hid hxl
 have HX1:=Lib.hid hx1
 rw [htl]
 clear hE hM hB hP hr hxl hx1 HC htl hT
 unfold mish at HP ⊢
 go_wp2_with (fail)
 refine wp_region_calm (af:=⟨#[.string s,.pointer (some ⟨w.heap.size,0,none⟩),.pointer (some ⟨w.heap.size + 1,0,none⟩),.pointer (some ⟨w.heap.size + 1 + 1,0,none⟩),.func (.func 28) #[] #[.pointer (some ⟨w.heap.size,0,none⟩),.pointer (some ⟨w.heap.size + 1,0,none⟩)],.agg #[.int .i64 (c:Int),.int .i64 (a:Int)],.agg xs.toArray,.agg #[.int .i64 (c:Int),.int .i64 (a:Int)]],[]⟩) (Two w 41 xs [.int .i64 (c:Int),.int .i64 (a:Int)] w1) (by kernel_rfl) (by kernel_rfl) ((Agree.rfl_.putr (j:=0) (d:=6) rfl rfl rfl (.agg xs.toArray)).putr (j:=1) (d:=7) rfl rfl rfl (.agg #[.int .i64 (c:Int),.int .i64 (a:Int)])) HT.out.drew (fun i hi=>?_) (fun w' hS=>?_)
 ·have hi3:i=0∨i=1∨i=2∨i=3:=by
   have:i < 4:=hi
   omega
  clear hi
  rcases hi3 with rfl | rfl | rfl | rfl
  ·exact calm_load 41 2 rfl rfl (by kernel_rfl) rfl rfl (.agg xs.toArray) (fun d hd _=>by injection hd with hd;subst hd;rfl) fun w2 h=>run_loadAt_mid w2 _ 0 _ xs _ (h.eb.range (n:=xs.length) (by simp)) Tryz.underlying41 rfl (by rw [HXL.out];exact sz_Ast)
  ·exact calm_load 26 3 rfl rfl (by kernel_rfl) rfl rfl (.agg #[.int .i64 (c:Int),.int .i64 (a:Int)]) (fun d hd _=>by injection hd with hd;subst hd;rfl) fun w2 h=>run_loadAt_mid w2 _ 0 _ [.int .i64 (c:Int),.int .i64 (a:Int)] _ (h.mb.range (n:=2) rfl) Tryz.underlying26 rfl sz_Mis
  ·exact calm_store 41 2 6 rfl rfl rfl (by kernel_rfl) (by kernel_rfl) rfl rfl rfl fun w2 h=>⟨_,storeN h.eb (by omega) (by rw [HXL.out];exact sz_Ast) HX1.out,h.setE⟩
  ·exact calm_store 26 3 7 rfl rfl rfl (by kernel_rfl) (by kernel_rfl) rfl rfl rfl fun w2 h=>⟨_,storeN h.mb (by simp) sz_Mis (by simp [Value.oneCell']),h.setM⟩
 ·have e1:(loadVar 41 ⟨w.heap.size + 1,0,none⟩).run Tryz.prog w'=.ok (.agg xs.toArray) w':=run_loadVar_mid w' _ 0 _ xs _ (hS.eb.range (n:=xs.length) (by simp)) Tryz.underlying41 rfl (by rw [HXL.out];exact sz_Ast)
  have e2:(loadVar 26 ⟨w.heap.size + 1 + 1,0,none⟩).run Tryz.prog w'=.ok (.agg #[.int .i64 (c:Int),.int .i64 (a:Int)]) w':=run_loadVar_mid w' _ 0 _ [.int .i64 (c:Int),.int .i64 (a:Int)] _ (hS.mb.range (n:=2) rfl) Tryz.underlying26 rfl sz_Mis
  have hP2:=HP.out w' hS.below hS.keep
  go_wp2_with (fail)
  refine bodyPost_ret (v:=.tuple #[.agg xs.toArray,.agg #[.int .i64 (c:Int),.int .i64 (a:Int)]]) ?_ rfl hP2
  exact results_cells Tryz.results11 rfl rfl e1 e2
end Go.Proofs.YtpoghableadkcaaGreatDoor
end
