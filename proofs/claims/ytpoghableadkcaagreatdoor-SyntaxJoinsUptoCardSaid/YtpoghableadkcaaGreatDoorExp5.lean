/- The walk of primary (printed by mkexp5.py). -/
import Derived.Test.YtpoghableadkcaaGreatDoorExp4
namespace Go.Proofs.YtpoghableadkcaaGreatDoor
open Go.RowKit
set_option linter.unusedVariables false
set_option linter.unusedSimpArgs false

theorem pid_ne {E:Env} {i:Nat}:pid E i ≠ .out:=by
 unfold pid
 split
 ·exact fun h=>by cases h
 ·rw [wrong_eq];exact fun h=>by cases h
/-- A variable's rows in an expression. -/
theorem AstF.ofRf {P:Nat→Prop} {w:World} {k:Nat} {n:Int} {s t:Bs} {r:Rf} {vn vi vh:Value} (h1:RowL P w 1 vn r.names.length (r.names.map strV)) (h2:∃ f,RowL P w 9 vi r.index.length f∧AstsF P w r.index f) (h3:RowL P w 1 vh r.has.length (r.has.map .bool)):
  AstF P w (.mk k n s t r.names r.index r.has [] []) vn vi vh (.slice none 0 0) (.slice none 0 0):=by
 rw [AstF]
 exact ⟨h1,h2,h3,⟨[],RowL.nil _ _ _,by rw [AstsF]⟩,⟨[],RowL.nil _ _ _,by rw [ArgsF]⟩⟩
/-- A variable's rows. -/
def RfF (P:Nat→Prop) (w:World) (r:Rf) (vn vi vh:Value):Prop:=RowL P w 1 vn r.names.length (r.names.map strV)∧(∃ f,RowL P w 9 vi r.index.length f∧AstsF P w r.index f)∧RowL P w 1 vh r.has.length (r.has.map .bool)
theorem RfF.forms {P:Nat→Prop} {w:World} {r:Rf} {vn vi vh:Value} (h:RfF P w r vn vi vh):∃ a1 n1 c1 a2 n2 c2 a3 n3 c3,vn=.slice a1 n1 c1∧vi=.slice a2 n2 c2∧vh=.slice a3 n3 c3:=by
 obtain ⟨h1,⟨f,h2,_⟩,h3⟩:=h
 obtain ⟨a1,c1,e1,_⟩:=h1
 obtain ⟨a2,c2,e2,_⟩:=h2
 obtain ⟨a3,c3,e3,_⟩:=h3
 exact ⟨_,_,_,_,_,_,_,_,_,e1,e2,e3⟩
theorem RfF.up {P:Nat→Prop} {w w':World} {r:Rf} {vn vi vh:Value} (h:RfF P w r vn vi vh) (hu:Keep P w w'):RfF P w' r vn vi vh:=by
 obtain ⟨h1,⟨f,h2,h3⟩,h4⟩:=h
 exact ⟨h1.up hu,⟨f,h2.up hu,AstsF.up hu _ h3⟩,h4.up hu⟩
theorem RfF.mono {P Q:Nat→Prop} {w:World} {r:Rf} {vn vi vh:Value} (h:RfF P w r vn vi vh) (hl:Wide P Q w):RfF Q w r vn vi vh:=by
 obtain ⟨h1,⟨f,h2,h3⟩,h4⟩:=h
 exact ⟨h1.mono hl,⟨f,h2.mono hl,AstsF.mono hl _ h3⟩,h4.mono hl⟩
theorem RfF.ast {P:Nat→Prop} {w:World} {k:Nat} {n:Int} {s t:Bs} {r:Rf} {vn vi vh:Value} (h:RfF P w r vn vi vh):AstF P w (.mk k n s t r.names r.index r.has [] []) vn vi vh (.slice none 0 0) (.slice none 0 0):=AstF.ofRf h.1 h.2.1 h.2.2
theorem RfF.val {P:Nat→Prop} {w:World} {r:Rf} {vn vi vh:Value} (h:RfF P w r vn vi vh):RfV P w (.agg #[vn,vi,vh]) r:=⟨vn,vi,vh,rfl,h⟩

set_option maxHeartbeats 4000000 in
set_option maxRecDepth 100000 in
theorem primaryFn {E:Env} {f:Nat} (ih:ExprOk E f) {w:World} {p i:Nat} {vl:Value} (hP:Par w p vl E i) (hne:primary E (f + 1) i ≠ .out):
  Calls Tryz.prog 114 #[.pointer (some ⟨p,0,none⟩)] w (Out p vl E w (AstV (From w.heap.size)) (primary E (f + 1) i)):=by

 have hp1:=hP.lt
 have hfew:=hP.few
 have hb0:Below w.heap.size w (w.alloc (.cells #[.int .i64 0,.int .i64 0,.string ⟨#[]⟩,.string ⟨#[]⟩,.slice none 0 0,.slice none 0 0,.slice none 0 0,.slice none 0 0,.slice none 0 0] 41)):=(Below.refl _ _).alloc (Nat.le_refl _) _
 have HP0:=Lib.hid (hP.belowAll hb0)
 have HB0:=Lib.hid (Holds.new w 41 #[.int .i64 0,.int .i64 0,.string ⟨#[]⟩,.string ⟨#[]⟩,.slice none 0 0,.slice none 0 0,.slice none 0 0,.slice none 0 0,.slice none 0 0])
 have HF0:=Lib.hid (Fp.of_below (p:=p) hb0)
 obtain ⟨Rr,hRr⟩:∃ Rr,primary E (f + 1) i=Rr:=⟨_,rfl⟩
 rw [hRr] at hne ⊢
 have HNE:=Lib.hid hne
 rw [primary] at hRr
 have hi2:i ≤ 65536:=Nat.le_trans hP.le hfew
 have HW:=Lib.hid (wordFn HP0.out 0 (by omega))
 rw [Nat.add_zero] at HW
 obtain ⟨t,ht⟩:∃ t,tokAt E i=t:=⟨_,rfl⟩
 have HLT:Hid (t.kind ≠ 0→i < E.L.length):=fun h=>kind_lt (E:=E) (by rw [kindAt_tok,ht];exact h)
 rw [kindAt_tok,numAt_tok,textAt_tok,ht] at hRr
 rw [ht] at HW
 unfold tokV at HW
 clear hP hb0 hne ht
 have HQ:=Lib.hid hRr
 clear hRr
 go_enter Tryz.func114,Tryz.ntmps114
 go_wp2_with (fail)
 refine (HW.out).mono ?_
 rintro e w1 ⟨rfl,hb⟩
 have hRr:=HQ.out
 clear HQ
 have HPw1:=Lib.hid (HP0.out.belowAll hb)
 have HFw1:=Lib.hid (HF0.out.bel hb)
 have HBw1:=Lib.hid (HB0.out.belowAll hb)
 clear HP0 HF0 HB0
 clear hb HW
 have hbw1:w.heap.size < w1.heap.size:=HBw1.out.lt
 have hba:Below w1.heap.size w1 (w1.alloc (.cells #[.int .i64 (t.kind:Int),.string ⟨t.text.toArray⟩,.int .i64 (t.num:Int),.int .i64 (t.at_:Int)] 93)):=(Below.refl _ _).alloc (Nat.le_refl _) _
 have hbn:=Holds.new w1 93 #[.int .i64 (t.kind:Int),.string ⟨t.text.toArray⟩,.int .i64 (t.num:Int),.int .i64 (t.at_:Int)]
 have HP11:=Lib.hid (HPw1.out.belowAll hba)
 have HF11:=Lib.hid (HFw1.out.bel hba)
 have HB11:=Lib.hid (HBw1.out.belowAll hba)
 clear HPw1 HFw1 HBw1
 have HT11:=Lib.hid hbn
 clear hbn
 clear hba
 have e0:(w1.alloc (.cells #[.int .i64 (t.kind:Int),.string ⟨t.text.toArray⟩,.int .i64 (t.num:Int),.int .i64 (t.at_:Int)] 93)).cell? ⟨w1.heap.size,0,none⟩=some (.int .i64 (t.kind:Int)):=HT11.out.cell 0
 have e1:(w1.alloc (.cells #[.int .i64 (t.kind:Int),.string ⟨t.text.toArray⟩,.int .i64 (t.num:Int),.int .i64 (t.at_:Int)] 93)).cell? ⟨w1.heap.size,1,none⟩=some (.string ⟨t.text.toArray⟩):=HT11.out.cell 1
 have e2:(w1.alloc (.cells #[.int .i64 (t.kind:Int),.string ⟨t.text.toArray⟩,.int .i64 (t.num:Int),.int .i64 (t.at_:Int)] 93)).cell? ⟨w1.heap.size,2,none⟩=some (.int .i64 (t.num:Int)):=HT11.out.cell 2
 have e3:(w1.alloc (.cells #[.int .i64 (t.kind:Int),.string ⟨t.text.toArray⟩,.int .i64 (t.num:Int),.int .i64 (t.at_:Int)] 93)).cell? ⟨w1.heap.size,3,none⟩=some (.int .i64 (t.at_:Int)):=HT11.out.cell 3
 by_cases hk2:t.kind=2
 ·rw [if_pos hk2] at hRr
  have hlt:=HLT.out (by omega)
  have HLTX:=Lib.hid hlt
  have hk2':((t.kind:Int) == 2)=true:=by simp;omega
  clear hlt
  obtain ⟨c0,c1,c2,f2⟩:=HP11.out.cells
  have HP12:=Lib.hid (HP11.out.set1 HLTX.out)
  have HF12:=Lib.hid (HF11.out.set 2 (.int .i64 ((i:Int) + 1)))
  have HB12:=Lib.hid (HB11.out.far (p:=⟨p,2,none⟩) (show ¬ _=p by omega) (.int .i64 ((i:Int) + 1)))
  have HT12:=Lib.hid (HT11.out.far (p:=⟨p,2,none⟩) (show ¬ _=p by omega) (.int .i64 ((i:Int) + 1)))
  clear HP11 HF11 HB11 HT11
  clear hk2
  have e2x:((w1.alloc (.cells #[.int .i64 (t.kind:Int),.string ⟨t.text.toArray⟩,.int .i64 (t.num:Int),.int .i64 (t.at_:Int)] 93)).setCell ⟨p,2,none⟩ (.int .i64 ((i:Int) + 1))).cell? ⟨w1.heap.size,2,none⟩=some (.int .i64 (t.num:Int)):=HT12.out.cell 2
  have d0:((w1.alloc (.cells #[.int .i64 (t.kind:Int),.string ⟨t.text.toArray⟩,.int .i64 (t.num:Int),.int .i64 (t.at_:Int)] 93)).setCell ⟨p,2,none⟩ (.int .i64 ((i:Int) + 1))).cell? ⟨w.heap.size,0,none⟩=some (.int .i64 0):=HB12.out.cell 0
  have g0:((w1.alloc (.cells #[.int .i64 (t.kind:Int),.string ⟨t.text.toArray⟩,.int .i64 (t.num:Int),.int .i64 (t.at_:Int)] 93)).setCell ⟨p,2,none⟩ (.int .i64 ((i:Int) + 1))).frozen? ⟨w.heap.size,0,none⟩=false:=HB12.out.free 0
  have d1:((w1.alloc (.cells #[.int .i64 (t.kind:Int),.string ⟨t.text.toArray⟩,.int .i64 (t.num:Int),.int .i64 (t.at_:Int)] 93)).setCell ⟨p,2,none⟩ (.int .i64 ((i:Int) + 1))).cell? ⟨w.heap.size,1,none⟩=some (.int .i64 0):=HB12.out.cell 1
  have g1:((w1.alloc (.cells #[.int .i64 (t.kind:Int),.string ⟨t.text.toArray⟩,.int .i64 (t.num:Int),.int .i64 (t.at_:Int)] 93)).setCell ⟨p,2,none⟩ (.int .i64 ((i:Int) + 1))).frozen? ⟨w.heap.size,1,none⟩=false:=HB12.out.free 1
  have d2:((w1.alloc (.cells #[.int .i64 (t.kind:Int),.string ⟨t.text.toArray⟩,.int .i64 (t.num:Int),.int .i64 (t.at_:Int)] 93)).setCell ⟨p,2,none⟩ (.int .i64 ((i:Int) + 1))).cell? ⟨w.heap.size,2,none⟩=some (.string ⟨#[]⟩):=HB12.out.cell 2
  have g2:((w1.alloc (.cells #[.int .i64 (t.kind:Int),.string ⟨t.text.toArray⟩,.int .i64 (t.num:Int),.int .i64 (t.at_:Int)] 93)).setCell ⟨p,2,none⟩ (.int .i64 ((i:Int) + 1))).frozen? ⟨w.heap.size,2,none⟩=false:=HB12.out.free 2
  have d3:((w1.alloc (.cells #[.int .i64 (t.kind:Int),.string ⟨t.text.toArray⟩,.int .i64 (t.num:Int),.int .i64 (t.at_:Int)] 93)).setCell ⟨p,2,none⟩ (.int .i64 ((i:Int) + 1))).cell? ⟨w.heap.size,3,none⟩=some (.string ⟨#[]⟩):=HB12.out.cell 3
  have g3:((w1.alloc (.cells #[.int .i64 (t.kind:Int),.string ⟨t.text.toArray⟩,.int .i64 (t.num:Int),.int .i64 (t.at_:Int)] 93)).setCell ⟨p,2,none⟩ (.int .i64 ((i:Int) + 1))).frozen? ⟨w.heap.size,3,none⟩=false:=HB12.out.free 3
  have d4:((w1.alloc (.cells #[.int .i64 (t.kind:Int),.string ⟨t.text.toArray⟩,.int .i64 (t.num:Int),.int .i64 (t.at_:Int)] 93)).setCell ⟨p,2,none⟩ (.int .i64 ((i:Int) + 1))).cell? ⟨w.heap.size,4,none⟩=some (.slice none 0 0):=HB12.out.cell 4
  have g4:((w1.alloc (.cells #[.int .i64 (t.kind:Int),.string ⟨t.text.toArray⟩,.int .i64 (t.num:Int),.int .i64 (t.at_:Int)] 93)).setCell ⟨p,2,none⟩ (.int .i64 ((i:Int) + 1))).frozen? ⟨w.heap.size,4,none⟩=false:=HB12.out.free 4
  have d5:((w1.alloc (.cells #[.int .i64 (t.kind:Int),.string ⟨t.text.toArray⟩,.int .i64 (t.num:Int),.int .i64 (t.at_:Int)] 93)).setCell ⟨p,2,none⟩ (.int .i64 ((i:Int) + 1))).cell? ⟨w.heap.size,5,none⟩=some (.slice none 0 0):=HB12.out.cell 5
  have g5:((w1.alloc (.cells #[.int .i64 (t.kind:Int),.string ⟨t.text.toArray⟩,.int .i64 (t.num:Int),.int .i64 (t.at_:Int)] 93)).setCell ⟨p,2,none⟩ (.int .i64 ((i:Int) + 1))).frozen? ⟨w.heap.size,5,none⟩=false:=HB12.out.free 5
  have d6:((w1.alloc (.cells #[.int .i64 (t.kind:Int),.string ⟨t.text.toArray⟩,.int .i64 (t.num:Int),.int .i64 (t.at_:Int)] 93)).setCell ⟨p,2,none⟩ (.int .i64 ((i:Int) + 1))).cell? ⟨w.heap.size,6,none⟩=some (.slice none 0 0):=HB12.out.cell 6
  have g6:((w1.alloc (.cells #[.int .i64 (t.kind:Int),.string ⟨t.text.toArray⟩,.int .i64 (t.num:Int),.int .i64 (t.at_:Int)] 93)).setCell ⟨p,2,none⟩ (.int .i64 ((i:Int) + 1))).frozen? ⟨w.heap.size,6,none⟩=false:=HB12.out.free 6
  have d7:((w1.alloc (.cells #[.int .i64 (t.kind:Int),.string ⟨t.text.toArray⟩,.int .i64 (t.num:Int),.int .i64 (t.at_:Int)] 93)).setCell ⟨p,2,none⟩ (.int .i64 ((i:Int) + 1))).cell? ⟨w.heap.size,7,none⟩=some (.slice none 0 0):=HB12.out.cell 7
  have g7:((w1.alloc (.cells #[.int .i64 (t.kind:Int),.string ⟨t.text.toArray⟩,.int .i64 (t.num:Int),.int .i64 (t.at_:Int)] 93)).setCell ⟨p,2,none⟩ (.int .i64 ((i:Int) + 1))).frozen? ⟨w.heap.size,7,none⟩=false:=HB12.out.free 7
  have d8:((w1.alloc (.cells #[.int .i64 (t.kind:Int),.string ⟨t.text.toArray⟩,.int .i64 (t.num:Int),.int .i64 (t.at_:Int)] 93)).setCell ⟨p,2,none⟩ (.int .i64 ((i:Int) + 1))).cell? ⟨w.heap.size,8,none⟩=some (.slice none 0 0):=HB12.out.cell 8
  have g8:((w1.alloc (.cells #[.int .i64 (t.kind:Int),.string ⟨t.text.toArray⟩,.int .i64 (t.num:Int),.int .i64 (t.at_:Int)] 93)).setCell ⟨p,2,none⟩ (.int .i64 ((i:Int) + 1))).frozen? ⟨w.heap.size,8,none⟩=false:=HB12.out.free 8
  have HZ:=Lib.hid hRr
  clear hRr
  go_wp2
  exact ast_end2 (x:=.num t.num) (P:=(fun _=>False)) Tryz.results114 rfl rfl HB12.out (by unfold Ast.num;exact AstF.nils) (by simp) (by intro k hk;exact hk.elim) (Nat.le_refl _) hp1 HP12.out HF12.out HZ.out.symm rfl rfl rfl rfl
 rw [if_neg hk2] at hRr
 have hk2':((t.kind:Int) == 2)=false:=by simp;omega
 by_cases hk1:t.kind=1
 ·rw [if_pos hk1] at hRr
  have hk1':((t.kind:Int) == 1)=true:=by simp;omega
  clear hk1 hk2
  have hsz:w.heap.size < (w1.alloc (.cells #[.int .i64 (t.kind:Int),.string ⟨t.text.toArray⟩,.int .i64 (t.num:Int),.int .i64 (t.at_:Int)] 93)).heap.size:=HB11.out.lt
  have HC':=ih.named HP11.out (fun h=>by rw [h] at hRr;exact HNE.out hRr.symm)
  cases h1:named E f i with
  | out=>exact absurd h1 (fun h=>by rw [h] at hRr;exact HNE.out hRr.symm)
  | bad c a=>
   rw [h1] at HC' hRr
   have HC:=Lib.hid HC'
   have HR:=Lib.hid hRr
   clear h1 HC' hRr ih
   go_wp2_with (fail)
   refine (HC.out).mono ?_
   rintro e wz ⟨rfl,hF⟩
   rw [← HR.out]
   exact ⟨rfl,rfl,HF11.out.trans hF⟩
  | ok x j2=>
   rw [h1] at HC' hRr
   have HC:=Lib.hid HC'
   have HR:=Lib.hid hRr
   clear h1 HC' hRr
   go_wp2_with (fail)
   refine (HC.out).mono ?_
   rintro e w13 ⟨vw13,rfl,⟨vn,vi,vh,vk,va,rfl,hvx⟩,hPq,hFq⟩
   obtain ⟨za1,zn1,zc1,za2,zn2,zc2,za3,zn3,zc3,za4,zn4,zc4,za5,zn5,zc5,rfl,rfl,rfl,rfl,rfl⟩:=hvx.forms
   unfold Ast.val
   have hRr:=HR.out
   try simp only [R.bd] at hRr
   have HP13:=Lib.hid hPq
   have HF13:=Lib.hid (HF11.out.trans hFq)
   have HB13:=Lib.hid (HB11.out.fp hFq (by omega))
   have HT13:=Lib.hid (HT11.out.fp hFq (by omega))
   clear HP11 HF11 HB11 HT11
   clear hPq hFq HR HC
   have HVx13:=Lib.hid hvx
   clear hvx
   have d0:w13.cell? ⟨w.heap.size,0,none⟩=some (.int .i64 0):=HB13.out.cell 0
   have g0:w13.frozen? ⟨w.heap.size,0,none⟩=false:=HB13.out.free 0
   have d1:w13.cell? ⟨w.heap.size,1,none⟩=some (.int .i64 0):=HB13.out.cell 1
   have g1:w13.frozen? ⟨w.heap.size,1,none⟩=false:=HB13.out.free 1
   have d2:w13.cell? ⟨w.heap.size,2,none⟩=some (.string ⟨#[]⟩):=HB13.out.cell 2
   have g2:w13.frozen? ⟨w.heap.size,2,none⟩=false:=HB13.out.free 2
   have d3:w13.cell? ⟨w.heap.size,3,none⟩=some (.string ⟨#[]⟩):=HB13.out.cell 3
   have g3:w13.frozen? ⟨w.heap.size,3,none⟩=false:=HB13.out.free 3
   have d4:w13.cell? ⟨w.heap.size,4,none⟩=some (.slice none 0 0):=HB13.out.cell 4
   have g4:w13.frozen? ⟨w.heap.size,4,none⟩=false:=HB13.out.free 4
   have d5:w13.cell? ⟨w.heap.size,5,none⟩=some (.slice none 0 0):=HB13.out.cell 5
   have g5:w13.frozen? ⟨w.heap.size,5,none⟩=false:=HB13.out.free 5
   have d6:w13.cell? ⟨w.heap.size,6,none⟩=some (.slice none 0 0):=HB13.out.cell 6
   have g6:w13.frozen? ⟨w.heap.size,6,none⟩=false:=HB13.out.free 6
   have d7:w13.cell? ⟨w.heap.size,7,none⟩=some (.slice none 0 0):=HB13.out.cell 7
   have g7:w13.frozen? ⟨w.heap.size,7,none⟩=false:=HB13.out.free 7
   have d8:w13.cell? ⟨w.heap.size,8,none⟩=some (.slice none 0 0):=HB13.out.cell 8
   have g8:w13.frozen? ⟨w.heap.size,8,none⟩=false:=HB13.out.free 8
   have HZ:=Lib.hid hRr
   clear hRr
   go_wp2
   exact ast_end2 (P:=From (w1.alloc (.cells #[.int .i64 (t.kind:Int),.string ⟨t.text.toArray⟩,.int .i64 (t.num:Int),.int .i64 (t.at_:Int)] 93)).heap.size) Tryz.results114 rfl rfl HB13.out HVx13.out (by show ¬ _;omega) (by intro k hk;have:_ ≤ k:=hk;omega) (Nat.le_refl _) hp1 HP13.out HF13.out HZ.out.symm rfl rfl rfl rfl
 rw [if_neg hk1] at hRr
 have hk1':((t.kind:Int) == 1)=false:=by simp;omega
 clear hk1 hk2
 have hL:=Holds.new (w1.alloc (.cells #[.int .i64 (t.kind:Int),.string ⟨t.text.toArray⟩,.int .i64 (t.num:Int),.int .i64 (t.at_:Int)] 93)) 9 #[.string ⟨#[116,114,117,101]⟩]
 rw [show (w1.alloc (.cells #[.int .i64 (t.kind:Int),.string ⟨t.text.toArray⟩,.int .i64 (t.num:Int),.int .i64 (t.at_:Int)] 93)).heap.size=w1.heap.size + 1 by simp [World.setCell]] at hL
 have HL:=Lib.hid hL
 clear hL
 have hba:Below (w1.alloc (.cells #[.int .i64 (t.kind:Int),.string ⟨t.text.toArray⟩,.int .i64 (t.num:Int),.int .i64 (t.at_:Int)] 93)).heap.size (w1.alloc (.cells #[.int .i64 (t.kind:Int),.string ⟨t.text.toArray⟩,.int .i64 (t.num:Int),.int .i64 (t.at_:Int)] 93)) ((w1.alloc (.cells #[.int .i64 (t.kind:Int),.string ⟨t.text.toArray⟩,.int .i64 (t.num:Int),.int .i64 (t.at_:Int)] 93)).alloc (.cells #[.string ⟨#[116,114,117,101]⟩] 9)):=(Below.refl _ _).alloc (Nat.le_refl _) _
 have HP14:=Lib.hid (HP11.out.belowAll hba)
 have HF14:=Lib.hid (HF11.out.bel hba)
 have HB14:=Lib.hid (HB11.out.belowAll hba)
 have HT14:=Lib.hid (HT11.out.belowAll hba)
 clear HP11 HF11 HB11 HT11
 clear hba
 cases hs:sees E i [[116,114,117,101]] with
 | true=>
  rw [if_pos hs] at hRr
  have HT:=Lib.hid (takes_yes HP14.out [[116,114,117,101]] HL.out (by simp) hs)
  clear hs HL
  have HQ:=Lib.hid hRr
  clear hRr
  go_wp2_with (fail)
  refine (HT.out).mono ?_
  rintro e w15 ⟨rfl,hPq,hFq⟩
  have hRr:=HQ.out
  clear HQ
  have HP15:=Lib.hid hPq
  have HF15:=Lib.hid (HF14.out.trans hFq)
  have HB15:=Lib.hid (HB14.out.fp hFq (by omega))
  have HT15:=Lib.hid (HT14.out.fp hFq (by omega))
  clear HP14 HF14 HB14 HT14
  clear hPq hFq HT
  have d0:w15.cell? ⟨w.heap.size,0,none⟩=some (.int .i64 0):=HB15.out.cell 0
  have g0:w15.frozen? ⟨w.heap.size,0,none⟩=false:=HB15.out.free 0
  have d1:w15.cell? ⟨w.heap.size,1,none⟩=some (.int .i64 0):=HB15.out.cell 1
  have g1:w15.frozen? ⟨w.heap.size,1,none⟩=false:=HB15.out.free 1
  have d2:w15.cell? ⟨w.heap.size,2,none⟩=some (.string ⟨#[]⟩):=HB15.out.cell 2
  have g2:w15.frozen? ⟨w.heap.size,2,none⟩=false:=HB15.out.free 2
  have d3:w15.cell? ⟨w.heap.size,3,none⟩=some (.string ⟨#[]⟩):=HB15.out.cell 3
  have g3:w15.frozen? ⟨w.heap.size,3,none⟩=false:=HB15.out.free 3
  have d4:w15.cell? ⟨w.heap.size,4,none⟩=some (.slice none 0 0):=HB15.out.cell 4
  have g4:w15.frozen? ⟨w.heap.size,4,none⟩=false:=HB15.out.free 4
  have d5:w15.cell? ⟨w.heap.size,5,none⟩=some (.slice none 0 0):=HB15.out.cell 5
  have g5:w15.frozen? ⟨w.heap.size,5,none⟩=false:=HB15.out.free 5
  have d6:w15.cell? ⟨w.heap.size,6,none⟩=some (.slice none 0 0):=HB15.out.cell 6
  have g6:w15.frozen? ⟨w.heap.size,6,none⟩=false:=HB15.out.free 6
  have d7:w15.cell? ⟨w.heap.size,7,none⟩=some (.slice none 0 0):=HB15.out.cell 7
  have g7:w15.frozen? ⟨w.heap.size,7,none⟩=false:=HB15.out.free 7
  have d8:w15.cell? ⟨w.heap.size,8,none⟩=some (.slice none 0 0):=HB15.out.cell 8
  have g8:w15.frozen? ⟨w.heap.size,8,none⟩=false:=HB15.out.free 8
  have HZ:=Lib.hid hRr
  clear hRr
  go_wp2
  exact ast_end2 (x:=.num 1) (P:=(fun _=>False)) Tryz.results114 rfl rfl HB15.out (by unfold Ast.num;exact AstF.nils) (by simp) (by intro k hk;exact hk.elim) (Nat.le_refl _) hp1 HP15.out HF15.out HZ.out.symm rfl rfl rfl rfl
 | false=>
  rw [if_neg (by rw [hs];decide)] at hRr
  have HT:=Lib.hid (takes_no HP14.out [[116,114,117,101]] HL.out (by simp) hs)
  clear hs HL
  have HQ:=Lib.hid hRr
  clear hRr
  go_wp2_with (fail)
  refine (HT.out).mono ?_
  rintro e w15 ⟨rfl,hbq⟩
  have hRr:=HQ.out
  clear HQ
  have HP15:=Lib.hid (HP14.out.belowAll hbq)
  have HF15:=Lib.hid (HF14.out.bel hbq)
  have HB15:=Lib.hid (HB14.out.belowAll hbq)
  have HT15:=Lib.hid (HT14.out.belowAll hbq)
  clear HP14 HF14 HB14 HT14
  clear hbq HT
  have hL:=Holds.new w15 9 #[.string ⟨#[102,97,108,115,101]⟩]
  have HL:=Lib.hid hL
  clear hL
  have hba:Below w15.heap.size w15 (w15.alloc (.cells #[.string ⟨#[102,97,108,115,101]⟩] 9)):=(Below.refl _ _).alloc (Nat.le_refl _) _
  have HP16:=Lib.hid (HP15.out.belowAll hba)
  have HF16:=Lib.hid (HF15.out.bel hba)
  have HB16:=Lib.hid (HB15.out.belowAll hba)
  have HT16:=Lib.hid (HT15.out.belowAll hba)
  clear HP15 HF15 HB15 HT15
  clear hba
  cases hs:sees E i [[102,97,108,115,101]] with
  | true=>
   rw [if_pos hs] at hRr
   have HT:=Lib.hid (takes_yes HP16.out [[102,97,108,115,101]] HL.out (by simp) hs)
   clear hs HL
   have HQ:=Lib.hid hRr
   clear hRr
   go_wp2_with (fail)
   refine (HT.out).mono ?_
   rintro e w17 ⟨rfl,hPq,hFq⟩
   have hRr:=HQ.out
   clear HQ
   have HP17:=Lib.hid hPq
   have HF17:=Lib.hid (HF16.out.trans hFq)
   have HB17:=Lib.hid (HB16.out.fp hFq (by omega))
   have HT17:=Lib.hid (HT16.out.fp hFq (by omega))
   clear HP16 HF16 HB16 HT16
   clear hPq hFq HT
   have d0:w17.cell? ⟨w.heap.size,0,none⟩=some (.int .i64 0):=HB17.out.cell 0
   have g0:w17.frozen? ⟨w.heap.size,0,none⟩=false:=HB17.out.free 0
   have d1:w17.cell? ⟨w.heap.size,1,none⟩=some (.int .i64 0):=HB17.out.cell 1
   have g1:w17.frozen? ⟨w.heap.size,1,none⟩=false:=HB17.out.free 1
   have d2:w17.cell? ⟨w.heap.size,2,none⟩=some (.string ⟨#[]⟩):=HB17.out.cell 2
   have g2:w17.frozen? ⟨w.heap.size,2,none⟩=false:=HB17.out.free 2
   have d3:w17.cell? ⟨w.heap.size,3,none⟩=some (.string ⟨#[]⟩):=HB17.out.cell 3
   have g3:w17.frozen? ⟨w.heap.size,3,none⟩=false:=HB17.out.free 3
   have d4:w17.cell? ⟨w.heap.size,4,none⟩=some (.slice none 0 0):=HB17.out.cell 4
   have g4:w17.frozen? ⟨w.heap.size,4,none⟩=false:=HB17.out.free 4
   have d5:w17.cell? ⟨w.heap.size,5,none⟩=some (.slice none 0 0):=HB17.out.cell 5
   have g5:w17.frozen? ⟨w.heap.size,5,none⟩=false:=HB17.out.free 5
   have d6:w17.cell? ⟨w.heap.size,6,none⟩=some (.slice none 0 0):=HB17.out.cell 6
   have g6:w17.frozen? ⟨w.heap.size,6,none⟩=false:=HB17.out.free 6
   have d7:w17.cell? ⟨w.heap.size,7,none⟩=some (.slice none 0 0):=HB17.out.cell 7
   have g7:w17.frozen? ⟨w.heap.size,7,none⟩=false:=HB17.out.free 7
   have d8:w17.cell? ⟨w.heap.size,8,none⟩=some (.slice none 0 0):=HB17.out.cell 8
   have g8:w17.frozen? ⟨w.heap.size,8,none⟩=false:=HB17.out.free 8
   have HZ:=Lib.hid hRr
   clear hRr
   go_wp2
   exact ast_end2 (x:=.num 0) (P:=(fun _=>False)) Tryz.results114 rfl rfl HB17.out (by unfold Ast.num;exact AstF.nils) (by simp) (by intro k hk;exact hk.elim) (Nat.le_refl _) hp1 HP17.out HF17.out HZ.out.symm rfl rfl rfl rfl
  | false=>
   rw [if_neg (by rw [hs];decide)] at hRr
   have HT:=Lib.hid (takes_no HP16.out [[102,97,108,115,101]] HL.out (by simp) hs)
   clear hs HL
   have HQ:=Lib.hid hRr
   clear hRr
   go_wp2_with (fail)
   refine (HT.out).mono ?_
   rintro e w17 ⟨rfl,hbq⟩
   have hRr:=HQ.out
   clear HQ
   have HP17:=Lib.hid (HP16.out.belowAll hbq)
   have HF17:=Lib.hid (HF16.out.bel hbq)
   have HB17:=Lib.hid (HB16.out.belowAll hbq)
   have HT17:=Lib.hid (HT16.out.belowAll hbq)
   clear HP16 HF16 HB16 HT16
   clear hbq HT
   have hL:=Holds.new w17 9 #[.string ⟨#[114,117,110]⟩]
   have HL:=Lib.hid hL
   clear hL
   have hba:Below w17.heap.size w17 (w17.alloc (.cells #[.string ⟨#[114,117,110]⟩] 9)):=(Below.refl _ _).alloc (Nat.le_refl _) _
   have HP18:=Lib.hid (HP17.out.belowAll hba)
   have HF18:=Lib.hid (HF17.out.bel hba)
   have HB18:=Lib.hid (HB17.out.belowAll hba)
   have HT18:=Lib.hid (HT17.out.belowAll hba)
   clear HP17 HF17 HB17 HT17
   clear hba
   cases hs:sees E i [[114,117,110]] with
   | true=>
    rw [if_pos hs] at hRr
    have HT:=Lib.hid (takes_yes HP18.out [[114,117,110]] HL.out (by simp) hs)
    clear hs HL
    have HQ:=Lib.hid hRr
    clear hRr
    go_wp2_with (fail)
    refine (HT.out).mono ?_
    rintro e w19 ⟨rfl,hPq,hFq⟩
    have hRr:=HQ.out
    clear HQ
    have HP19:=Lib.hid hPq
    have HF19:=Lib.hid (HF18.out.trans hFq)
    have HB19:=Lib.hid (HB18.out.fp hFq (by omega))
    have HT19:=Lib.hid (HT18.out.fp hFq (by omega))
    clear HP18 HF18 HB18 HT18
    clear hPq hFq HT
    have HC':=idFn HP19.out
    cases h1:pid E (i + 1) with
    | out=>exact absurd h1 pid_ne
    | bad c a=>
     rw [h1] at HC' hRr
     have HC:=Lib.hid HC'
     have HR:=Lib.hid hRr
     clear h1 HC' hRr 
     go_wp2_with (fail)
     refine (HC.out).mono ?_
     rintro e wz ⟨rfl,hF⟩
     rw [← HR.out]
     exact ⟨rfl,rfl,HF19.out.trans hF⟩
    | ok s j2=>
     rw [h1] at HC' hRr
     have HC:=Lib.hid HC'
     have HR:=Lib.hid hRr
     clear h1 HC' hRr
     go_wp2_with (fail)
     refine (HC.out).mono ?_
     rintro e w20 ⟨vw20,rfl,hv,hPq,hFq⟩
     have hRr:=HR.out
     try simp only [R.bd] at hRr
     have HP20:=Lib.hid hPq
     have HF20:=Lib.hid (HF19.out.trans hFq)
     have HB20:=Lib.hid (HB19.out.fp hFq (by omega))
     have HT20:=Lib.hid (HT19.out.fp hFq (by omega))
     clear HP19 HF19 HB19 HT19
     clear hPq hFq HR HC
     obtain rfl:=hv
     have hsz:w.heap.size < w20.heap.size:=HB20.out.lt
     have hmf:∀ (fn:Fn) (first cap:Array Value) (w:World),(Instr.makeFunc fn first cap).run Tryz.prog w=.ok (.func fn first cap) w:=fun _ _ _ _=>rfl
     have HC':=withinAstFn f (fun k=>expr E f 0 k) _ _ _ HP20.out (oneFull ih) (fun i a k h=>Nat.le_of_lt ((advE E f).expr h)) (fun h=>by rw [h] at hRr;exact HNE.out hRr.symm)
     cases h1:within E (fun k=>expr E f 0 k) f j2 with
     | out=>exact absurd h1 (fun h=>by rw [h] at hRr;exact HNE.out hRr.symm)
     | bad c a=>
      rw [h1] at HC' hRr
      have HC:=Lib.hid HC'
      have HR:=Lib.hid hRr
      clear h1 HC' hRr ih
      go_wp2_with (fail)
      refine (HC.out).mono ?_
      rintro e wz ⟨rfl,hF⟩
      rw [← HR.out]
      exact ⟨rfl,rfl,HF20.out.trans hF⟩
     | ok l j3=>
      rw [h1] at HC' hRr
      have HC:=Lib.hid HC'
      have HR:=Lib.hid hRr
      clear h1 HC' hRr
      go_wp2_with (fail)
      refine (HC.out).mono ?_
      rintro e w21 ⟨vw21,rfl,hv,hPq,hFq⟩
      have hRr:=HR.out
      try simp only [R.bd] at hRr
      have HP21:=Lib.hid hPq
      have HF21:=Lib.hid (HF20.out.trans hFq)
      have HB21:=Lib.hid (HB20.out.fp hFq (by omega))
      have HT21:=Lib.hid (HT20.out.fp hFq (by omega))
      clear HP20 HF20 HB20 HT20
      clear hPq hFq HR HC
      obtain ⟨ff,hr,hf⟩:=hv
      obtain ⟨za,zc,hvf,_⟩:=hr.form
      subst hvf
      have HV21:=Lib.hid (show AstsV (From w20.heap.size) w21 _ _ from ⟨ff,hr,hf⟩)
      clear hr hf
      have d0:w21.cell? ⟨w.heap.size,0,none⟩=some (.int .i64 0):=HB21.out.cell 0
      have g0:w21.frozen? ⟨w.heap.size,0,none⟩=false:=HB21.out.free 0
      have d1:w21.cell? ⟨w.heap.size,1,none⟩=some (.int .i64 0):=HB21.out.cell 1
      have g1:w21.frozen? ⟨w.heap.size,1,none⟩=false:=HB21.out.free 1
      have d2:w21.cell? ⟨w.heap.size,2,none⟩=some (.string ⟨#[]⟩):=HB21.out.cell 2
      have g2:w21.frozen? ⟨w.heap.size,2,none⟩=false:=HB21.out.free 2
      have d3:w21.cell? ⟨w.heap.size,3,none⟩=some (.string ⟨#[]⟩):=HB21.out.cell 3
      have g3:w21.frozen? ⟨w.heap.size,3,none⟩=false:=HB21.out.free 3
      have d4:w21.cell? ⟨w.heap.size,4,none⟩=some (.slice none 0 0):=HB21.out.cell 4
      have g4:w21.frozen? ⟨w.heap.size,4,none⟩=false:=HB21.out.free 4
      have d5:w21.cell? ⟨w.heap.size,5,none⟩=some (.slice none 0 0):=HB21.out.cell 5
      have g5:w21.frozen? ⟨w.heap.size,5,none⟩=false:=HB21.out.free 5
      have d6:w21.cell? ⟨w.heap.size,6,none⟩=some (.slice none 0 0):=HB21.out.cell 6
      have g6:w21.frozen? ⟨w.heap.size,6,none⟩=false:=HB21.out.free 6
      have d7:w21.cell? ⟨w.heap.size,7,none⟩=some (.slice none 0 0):=HB21.out.cell 7
      have g7:w21.frozen? ⟨w.heap.size,7,none⟩=false:=HB21.out.free 7
      have d8:w21.cell? ⟨w.heap.size,8,none⟩=some (.slice none 0 0):=HB21.out.cell 8
      have g8:w21.frozen? ⟨w.heap.size,8,none⟩=false:=HB21.out.free 8
      have HZ:=Lib.hid hRr
      clear hRr
      go_wp2
      exact ast_end2 (x:=.run s l) (P:=From w20.heap.size) Tryz.results114 rfl rfl HB21.out (by unfold Ast.run;exact AstF.kids HV21.out) (by show ¬ _;omega) (by intro k hk;have:_ ≤ k:=hk;omega) (Nat.le_refl _) hp1 HP21.out HF21.out HZ.out.symm rfl rfl rfl rfl
   | false=>
    rw [if_neg (by rw [hs];decide)] at hRr
    have HT:=Lib.hid (takes_no HP18.out [[114,117,110]] HL.out (by simp) hs)
    clear hs HL
    have HQ:=Lib.hid hRr
    clear hRr
    go_wp2_with (fail)
    refine (HT.out).mono ?_
    rintro e w19 ⟨rfl,hbq⟩
    have hRr:=HQ.out
    clear HQ
    have HP19:=Lib.hid (HP18.out.belowAll hbq)
    have HF19:=Lib.hid (HF18.out.bel hbq)
    have HB19:=Lib.hid (HB18.out.belowAll hbq)
    have HT19:=Lib.hid (HT18.out.belowAll hbq)
    clear HP18 HF18 HB18 HT18
    clear hbq HT
    have hL:=Holds.new w19 9 #[.string ⟨#[116,105,109,101,111,117,116]⟩,.string ⟨#[110,112,95]⟩,.string ⟨#[95,112,105,100]⟩,.string ⟨#[95,110,114,95,112,114]⟩]
    have HL:=Lib.hid hL
    clear hL
    have hba:Below w19.heap.size w19 (w19.alloc (.cells #[.string ⟨#[116,105,109,101,111,117,116]⟩,.string ⟨#[110,112,95]⟩,.string ⟨#[95,112,105,100]⟩,.string ⟨#[95,110,114,95,112,114]⟩] 9)):=(Below.refl _ _).alloc (Nat.le_refl _) _
    have HP22:=Lib.hid (HP19.out.belowAll hba)
    have HF22:=Lib.hid (HF19.out.bel hba)
    have HB22:=Lib.hid (HB19.out.belowAll hba)
    have HT22:=Lib.hid (HT19.out.belowAll hba)
    clear HP19 HF19 HB19 HT19
    clear hba
    cases hs:sees E i [[116,105,109,101,111,117,116],[110,112,95],[95,112,105,100],[95,110,114,95,112,114]] with
    | true=>
     rw [if_pos hs] at hRr
     have HT:=Lib.hid (takes_yes HP22.out [[116,105,109,101,111,117,116],[110,112,95],[95,112,105,100],[95,110,114,95,112,114]] HL.out (by simp) hs)
     clear hs HL
     have HQ:=Lib.hid hRr
     clear hRr
     go_wp2_with (fail)
     refine (HT.out).mono ?_
     rintro e w23 ⟨rfl,hPq,hFq⟩
     have hRr:=HQ.out
     clear HQ
     have HP23:=Lib.hid hPq
     have HF23:=Lib.hid (HF22.out.trans hFq)
     have HB23:=Lib.hid (HB22.out.fp hFq (by omega))
     have HT23:=Lib.hid (HT22.out.fp hFq (by omega))
     clear HP22 HF22 HB22 HT22
     clear hPq hFq HT
     have e1:w23.cell? ⟨w1.heap.size,1,none⟩=some (.string ⟨t.text.toArray⟩):=HT23.out.cell 1
     have d0:w23.cell? ⟨w.heap.size,0,none⟩=some (.int .i64 0):=HB23.out.cell 0
     have g0:w23.frozen? ⟨w.heap.size,0,none⟩=false:=HB23.out.free 0
     have d1:w23.cell? ⟨w.heap.size,1,none⟩=some (.int .i64 0):=HB23.out.cell 1
     have g1:w23.frozen? ⟨w.heap.size,1,none⟩=false:=HB23.out.free 1
     have d2:w23.cell? ⟨w.heap.size,2,none⟩=some (.string ⟨#[]⟩):=HB23.out.cell 2
     have g2:w23.frozen? ⟨w.heap.size,2,none⟩=false:=HB23.out.free 2
     have d3:w23.cell? ⟨w.heap.size,3,none⟩=some (.string ⟨#[]⟩):=HB23.out.cell 3
     have g3:w23.frozen? ⟨w.heap.size,3,none⟩=false:=HB23.out.free 3
     have d4:w23.cell? ⟨w.heap.size,4,none⟩=some (.slice none 0 0):=HB23.out.cell 4
     have g4:w23.frozen? ⟨w.heap.size,4,none⟩=false:=HB23.out.free 4
     have d5:w23.cell? ⟨w.heap.size,5,none⟩=some (.slice none 0 0):=HB23.out.cell 5
     have g5:w23.frozen? ⟨w.heap.size,5,none⟩=false:=HB23.out.free 5
     have d6:w23.cell? ⟨w.heap.size,6,none⟩=some (.slice none 0 0):=HB23.out.cell 6
     have g6:w23.frozen? ⟨w.heap.size,6,none⟩=false:=HB23.out.free 6
     have d7:w23.cell? ⟨w.heap.size,7,none⟩=some (.slice none 0 0):=HB23.out.cell 7
     have g7:w23.frozen? ⟨w.heap.size,7,none⟩=false:=HB23.out.free 7
     have d8:w23.cell? ⟨w.heap.size,8,none⟩=some (.slice none 0 0):=HB23.out.cell 8
     have g8:w23.frozen? ⟨w.heap.size,8,none⟩=false:=HB23.out.free 8
     have HZ:=Lib.hid hRr
     clear hRr
     go_wp2
     exact ast_end2 (x:=.word t.text) (P:=(fun _=>False)) Tryz.results114 rfl rfl HB23.out (by unfold Ast.word;exact AstF.nils) (by simp) (by intro k hk;exact hk.elim) (Nat.le_refl _) hp1 HP23.out HF23.out HZ.out.symm rfl rfl rfl rfl
    | false=>
     rw [if_neg (by rw [hs];decide)] at hRr
     have HT:=Lib.hid (takes_no HP22.out [[116,105,109,101,111,117,116],[110,112,95],[95,112,105,100],[95,110,114,95,112,114]] HL.out (by simp) hs)
     clear hs HL
     have HQ:=Lib.hid hRr
     clear hRr
     go_wp2_with (fail)
     refine (HT.out).mono ?_
     rintro e w23 ⟨rfl,hbq⟩
     have hRr:=HQ.out
     clear HQ
     have HP23:=Lib.hid (HP22.out.belowAll hbq)
     have HF23:=Lib.hid (HF22.out.bel hbq)
     have HB23:=Lib.hid (HB22.out.belowAll hbq)
     have HT23:=Lib.hid (HT22.out.belowAll hbq)
     clear HP22 HF22 HB22 HT22
     clear hbq HT
     have hL:=Holds.new w23 9 #[.string ⟨#[108,101,110]⟩,.string ⟨#[102,117,108,108]⟩,.string ⟨#[101,109,112,116,121]⟩,.string ⟨#[110,102,117,108,108]⟩,.string ⟨#[110,101,109,112,116,121]⟩]
     have HL:=Lib.hid hL
     clear hL
     have hba:Below w23.heap.size w23 (w23.alloc (.cells #[.string ⟨#[108,101,110]⟩,.string ⟨#[102,117,108,108]⟩,.string ⟨#[101,109,112,116,121]⟩,.string ⟨#[110,102,117,108,108]⟩,.string ⟨#[110,101,109,112,116,121]⟩] 9)):=(Below.refl _ _).alloc (Nat.le_refl _) _
     have HP24:=Lib.hid (HP23.out.belowAll hba)
     have HF24:=Lib.hid (HF23.out.bel hba)
     have HB24:=Lib.hid (HB23.out.belowAll hba)
     have HT24:=Lib.hid (HT23.out.belowAll hba)
     clear HP23 HF23 HB23 HT23
     clear hba
     cases hs:sees E i [[108,101,110],[102,117,108,108],[101,109,112,116,121],[110,102,117,108,108],[110,101,109,112,116,121]] with
     | true=>
      rw [if_pos hs] at hRr
      have HT:=Lib.hid (takes_yes HP24.out [[108,101,110],[102,117,108,108],[101,109,112,116,121],[110,102,117,108,108],[110,101,109,112,116,121]] HL.out (by simp) hs)
      clear hs HL
      have HQ:=Lib.hid hRr
      clear hRr
      go_wp2_with (fail)
      refine (HT.out).mono ?_
      rintro e w25 ⟨rfl,hPq,hFq⟩
      have hRr:=HQ.out
      clear HQ
      have HP25:=Lib.hid hPq
      have HF25:=Lib.hid (HF24.out.trans hFq)
      have HB25:=Lib.hid (HB24.out.fp hFq (by omega))
      have HT25:=Lib.hid (HT24.out.fp hFq (by omega))
      clear HP24 HF24 HB24 HT24
      clear hPq hFq HT
      have HC':=needFn HP25.out [40]
      cases h1:need E [40] (i + 1) with
      | out=>exact absurd h1 need_ne
      | bad c a=>
       rw [h1] at HC' hRr
       have HC:=Lib.hid HC'
       have HR:=Lib.hid hRr
       clear h1 HC' hRr 
       go_wp2_with (fail)
       refine (HC.out).mono ?_
       rintro e wz ⟨rfl,hF⟩
       rw [← HR.out]
       exact ⟨rfl,rfl,HF25.out.trans hF⟩
      | ok u j2=>
       rw [h1] at HC' hRr
       have HC:=Lib.hid HC'
       have HR:=Lib.hid hRr
       clear h1 HC' hRr
       go_wp2_with (fail)
       refine (HC.out).mono ?_
       rintro e w26 ⟨vw26,rfl,hv,hPq,hFq⟩
       have hRr:=HR.out
       try simp only [R.bd] at hRr
       have HP26:=Lib.hid hPq
       have HF26:=Lib.hid (HF25.out.trans hFq)
       have HB26:=Lib.hid (HB25.out.fp hFq (by omega))
       have HT26:=Lib.hid (HT25.out.fp hFq (by omega))
       clear HP25 HF25 HB25 HT25
       clear hPq hFq HR HC
       obtain rfl:=hv
       have hrn:ref E f j2 ≠ .out:=(fun h=>by rw [h] at hRr;exact HNE.out hRr.symm)
       have hC':∀ W',Par W' p vl E j2→Calls Tryz.prog 147 #[.pointer (some ⟨p,0,none⟩)] W' (Out p vl E W' (RfV (From W'.heap.size)) (ref E f j2)):=fun W' h=>ih.ref h hrn
       have hl1:∀ w',F2 p (w.heap.size) w26 w'→w'.cell? ⟨w1.heap.size,1,none⟩=some (.string ⟨t.text.toArray⟩):=fun w' h=>(h.holds HT26.out (by omega) (by omega)).cell 1
       have e1:=hl1 _ F2.rfl_
       have e1x:(w26.alloc (.cells #[.int .i64 0,.int .i64 0,.string ⟨#[]⟩,.string ⟨#[]⟩,.slice none 0 0,.slice none 0 0,.slice none 0 0,.slice none 0 0,.slice none 0 0] 41)).cell? ⟨w1.heap.size,1,none⟩=some (.string ⟨t.text.toArray⟩):=hl1 _ (F2.rfl_.alloc _)
       have HS0:Hid (F2 p (w.heap.size) w26 w26):=F2.rfl_
       have hszB:w.heap.size < w26.heap.size:=HB26.out.lt
       have hszT:w1.heap.size < w26.heap.size:=HT26.out.lt
       cases h1:ref E f j2 with
       | out=>exact absurd h1 hrn
       | bad c a=>
        simp only [h1] at hC'
        rw [h1] at hRr
        have HC:=Lib.hid hC'
        have HR:=Lib.hid hRr
        clear h1 hC' hRr hrn ih hl1
        go_wp2
        go_region_dies
        all_goals (
         refine (HC.out _ (by repeat' first | with_reducible exact HP26.out | with_reducible apply Par.drew | with_reducible apply Par.alloc)).mono ?_
         rintro e wz ⟨rfl,hF⟩
         rw [← HR.out]
         exact ⟨rfl,rfl,Fp.trans (by repeat' first | with_reducible exact HF26.out | with_reducible apply Fr.drew | with_reducible apply Fr.alloc) hF⟩)
       | ok r k=>
        simp only [h1] at hC'
        rw [h1] at hRr
        have HC:=Lib.hid hC'
        have HR:=Lib.hid hRr
        clear h1 hC' hRr hrn ih
        go_wp2
        go_region_held3 (fun w':World=>F2 p (w.heap.size) w26 w') (repeat' first | (with_reducible exact HS0.out) | (with_reducible exact hS6.out) | with_reducible apply F2.drew | with_reducible apply F2.alloc | (with_reducible refine F2.far ?_ (Nat.le_refl _) _ _) | (with_reducible refine F2.far ?_ HF6.out.size _ _)) (first | (go_at_call 147;(with_reducible refine (HC.out ((w26.alloc (.cells #[.int .i64 0,.int .i64 0,.string ⟨#[]⟩,.string ⟨#[]⟩,.slice none 0 0,.slice none 0 0,.slice none 0 0,.slice none 0 0,.slice none 0 0] 41)).drew) (HP26.out.alloc _).drew).mono ?_);rintro e w6 ⟨v6,rfl,⟨vn,vi,vh,rfl,hv6⟩,hP6,hF6⟩;obtain ⟨ra1,rn1,rc1,ra2,rn2,rc2,ra3,rn3,rc3,rfl,rfl,rfl⟩:=RfF.forms hv6;have HV6:=Lib.hid (show RfF _ _ _ _ _ _ from hv6);have HP6:=Lib.hid hP6;have hA6:=(show Holds ((w26.alloc (.cells #[.int .i64 0,.int .i64 0,.string ⟨#[]⟩,.string ⟨#[]⟩,.slice none 0 0,.slice none 0 0,.slice none 0 0,.slice none 0 0,.slice none 0 0] 41)).drew) w26.heap.size 41 [.int .i64 0,.int .i64 0,.string ⟨#[]⟩,.string ⟨#[]⟩,.slice none 0 0,.slice none 0 0,.slice none 0 0,.slice none 0 0,.slice none 0 0] from Holds.new w26 41 #[.int .i64 0,.int .i64 0,.string ⟨#[]⟩,.string ⟨#[]⟩,.slice none 0 0,.slice none 0 0,.slice none 0 0,.slice none 0 0,.slice none 0 0]).fp hF6 (show p < w26.heap.size by omega);obtain ⟨d0,d1,d2,d3,d4,d5,d6,d7,d8⟩:=hA6.cells9;obtain ⟨g0,g1,g2,g3,g4,g5,g6,g7,g8⟩:=hA6.free9;have HA6:=Lib.hid hA6;have HF6:=Lib.hid (Fp.trans ((Fp.refl p w26).alloc _).drew hF6);have hS6:=Lib.hid (F2.of_fp (b:=w.heap.size) HF6.out);clear hv6 hP6 hF6 hA6) | (go_at_call 147;(with_reducible refine (HC.out w26.drew HP26.out.drew).mono ?_);rintro e w6 ⟨v6,rfl,⟨vn,vi,vh,rfl,hv6⟩,hP6,hF6⟩;obtain ⟨ra1,rn1,rc1,ra2,rn2,rc2,ra3,rn3,rc3,rfl,rfl,rfl⟩:=RfF.forms hv6;have HV6:=Lib.hid (show RfF _ _ _ _ _ _ from hv6);have HP6:=Lib.hid hP6;have HF6:=Lib.hid (Fp.trans (Fp.refl p w26).drew hF6);have hS6:=Lib.hid (F2.of_fp (b:=w.heap.size) HF6.out);clear hv6 hP6 hF6))
        ·have hRr:=HR.out
         try simp only [R.bd] at hRr
         have hF6:=HF6.out
         have hs6:w26.heap.size ≤ w6.heap.size:=hF6.size
         have HPr6:=Lib.hid HP6.out
         have HFr6:=Lib.hid (HF26.out.trans hF6)
         have HBr6:=Lib.hid (HB26.out.fp hF6 (by omega))
         have HTr6:=Lib.hid (HT26.out.fp hF6 (by omega))
         clear HP26 HF26 HB26 HT26
         have hv6:RfF (From w26.heap.size) w6 r (.slice ra1 rn1 rc1) (.slice ra2 rn2 rc2) (.slice ra3 rn3 rc3):=HV6.out.mono (fun k hk _=>by have hk2:_ ≤ k:=hk;simp at hk2;show _ ≤ k;omega)
         have HVr6:=Lib.hid hv6
         clear hv6 HV6
         clear hF6 HP6 HF6 hS6 HC HR HS0 hl1 e1 e1x
         have HVr6:=Lib.hid (HVr6.out.mono (Q:=fun k=>w26.heap.size ≤ k∧k < w6.heap.size) (fun k hk hs=>⟨hk,hs⟩))
         have hba:Below w6.heap.size w6 (w6.alloc (.cells #[.int .i64 6,.int .i64 0,.string ⟨t.text.toArray⟩,.string ⟨#[]⟩,.slice ra1 rn1 rc1,.slice ra2 rn2 rc2,.slice ra3 rn3 rc3,.slice none 0 0,.slice none 0 0] 41)):=(Below.refl _ _).alloc (Nat.le_refl _) _
         have hbn:=Holds.new w6 41 #[.int .i64 6,.int .i64 0,.string ⟨t.text.toArray⟩,.string ⟨#[]⟩,.slice ra1 rn1 rc1,.slice ra2 rn2 rc2,.slice ra3 rn3 rc3,.slice none 0 0,.slice none 0 0]
         have HP27:=Lib.hid (HPr6.out.belowAll hba)
         have HF27:=Lib.hid (HFr6.out.bel hba)
         have HB27:=Lib.hid (HBr6.out.belowAll hba)
         have HT27:=Lib.hid (HTr6.out.belowAll hba)
         have HV27:=Lib.hid (HVr6.out.up (Keep.below hba))
         clear HPr6 HFr6 HBr6 HTr6 HVr6
         have HA27:=Lib.hid hbn
         clear hbn
         clear hba
         have HC':=needFn HP27.out [41]
         cases h1:need E [41] k with
         | out=>exact absurd h1 need_ne
         | bad c a=>
          rw [h1] at HC' hRr
          have HC:=Lib.hid HC'
          have HR:=Lib.hid hRr
          clear h1 HC' hRr 
          go_wp2_with (fail)
          refine (HC.out).mono ?_
          rintro e wz ⟨rfl,hF⟩
          rw [← HR.out]
          exact ⟨rfl,rfl,HF27.out.trans hF⟩
         | ok u j2=>
          rw [h1] at HC' hRr
          have HC:=Lib.hid HC'
          have HR:=Lib.hid hRr
          clear h1 HC' hRr
          go_wp2_with (fail)
          refine (HC.out).mono ?_
          rintro e w28 ⟨vw28,rfl,hv,hPq,hFq⟩
          have hRr:=HR.out
          try simp only [R.bd] at hRr
          have HP28:=Lib.hid hPq
          have HF28:=Lib.hid (HF27.out.trans hFq)
          have HB28:=Lib.hid (HB27.out.fp hFq (by omega))
          have HT28:=Lib.hid (HT27.out.fp hFq (by omega))
          have HA28:=Lib.hid (HA27.out.fp hFq (by omega))
          have HV28:=Lib.hid (HV27.out.up (Keep.of_fp hFq (by show ¬ _;omega)))
          clear HP27 HF27 HB27 HT27 HA27 HV27
          clear hPq hFq HR HC
          obtain rfl:=hv
          have l0:w28.cell? ⟨w6.heap.size,0,none⟩=some (.int .i64 6):=HA28.out.cell 0
          have l1:w28.cell? ⟨w6.heap.size,1,none⟩=some (.int .i64 0):=HA28.out.cell 1
          have l2:w28.cell? ⟨w6.heap.size,2,none⟩=some (.string ⟨t.text.toArray⟩):=HA28.out.cell 2
          have l3:w28.cell? ⟨w6.heap.size,3,none⟩=some (.string ⟨#[]⟩):=HA28.out.cell 3
          have l4:w28.cell? ⟨w6.heap.size,4,none⟩=some (.slice ra1 rn1 rc1):=HA28.out.cell 4
          have l5:w28.cell? ⟨w6.heap.size,5,none⟩=some (.slice ra2 rn2 rc2):=HA28.out.cell 5
          have l6:w28.cell? ⟨w6.heap.size,6,none⟩=some (.slice ra3 rn3 rc3):=HA28.out.cell 6
          have l7:w28.cell? ⟨w6.heap.size,7,none⟩=some (.slice none 0 0):=HA28.out.cell 7
          have l8:w28.cell? ⟨w6.heap.size,8,none⟩=some (.slice none 0 0):=HA28.out.cell 8
          have d0:w28.cell? ⟨w.heap.size,0,none⟩=some (.int .i64 0):=HB28.out.cell 0
          have g0:w28.frozen? ⟨w.heap.size,0,none⟩=false:=HB28.out.free 0
          have d1:w28.cell? ⟨w.heap.size,1,none⟩=some (.int .i64 0):=HB28.out.cell 1
          have g1:w28.frozen? ⟨w.heap.size,1,none⟩=false:=HB28.out.free 1
          have d2:w28.cell? ⟨w.heap.size,2,none⟩=some (.string ⟨#[]⟩):=HB28.out.cell 2
          have g2:w28.frozen? ⟨w.heap.size,2,none⟩=false:=HB28.out.free 2
          have d3:w28.cell? ⟨w.heap.size,3,none⟩=some (.string ⟨#[]⟩):=HB28.out.cell 3
          have g3:w28.frozen? ⟨w.heap.size,3,none⟩=false:=HB28.out.free 3
          have d4:w28.cell? ⟨w.heap.size,4,none⟩=some (.slice none 0 0):=HB28.out.cell 4
          have g4:w28.frozen? ⟨w.heap.size,4,none⟩=false:=HB28.out.free 4
          have d5:w28.cell? ⟨w.heap.size,5,none⟩=some (.slice none 0 0):=HB28.out.cell 5
          have g5:w28.frozen? ⟨w.heap.size,5,none⟩=false:=HB28.out.free 5
          have d6:w28.cell? ⟨w.heap.size,6,none⟩=some (.slice none 0 0):=HB28.out.cell 6
          have g6:w28.frozen? ⟨w.heap.size,6,none⟩=false:=HB28.out.free 6
          have d7:w28.cell? ⟨w.heap.size,7,none⟩=some (.slice none 0 0):=HB28.out.cell 7
          have g7:w28.frozen? ⟨w.heap.size,7,none⟩=false:=HB28.out.free 7
          have d8:w28.cell? ⟨w.heap.size,8,none⟩=some (.slice none 0 0):=HB28.out.cell 8
          have g8:w28.frozen? ⟨w.heap.size,8,none⟩=false:=HB28.out.free 8
          have HZ:=Lib.hid hRr
          clear hRr
          go_wp2
          exact ast_end2 (x:=.len t.text r) (P:=(fun k=>w26.heap.size ≤ k∧k < w6.heap.size)) Tryz.results114 rfl rfl HB28.out (by unfold Ast.len;exact HV28.out.ast) (by show ¬ _;omega) (by intro k hk;have hk2:w26.heap.size ≤ k:=(by first | exact hk.1 | exact Nat.le_trans (Nat.le_succ _) hk);omega) (Nat.le_refl _) hp1 HP28.out HF28.out HZ.out.symm rfl rfl rfl rfl
        ·have hRr:=HR.out
         try simp only [R.bd] at hRr
         have hF6:=HF6.out
         have hs6:w26.heap.size ≤ w6.heap.size:=hF6.size
         have HPr6:=Lib.hid HP6.out
         have HFr6:=Lib.hid (HF26.out.trans hF6)
         have HBr6:=Lib.hid (HB26.out.fp hF6 (by omega))
         have HTr6:=Lib.hid (HT26.out.fp hF6 (by omega))
         clear HP26 HF26 HB26 HT26
         have hv6:RfF (From (w26.heap.size + 1)) w6 r (.slice ra1 rn1 rc1) (.slice ra2 rn2 rc2) (.slice ra3 rn3 rc3):=HV6.out.mono (fun k hk _=>by have hk2:_ ≤ k:=hk;simp at hk2;show _ ≤ k;omega)
         have HVr6:=Lib.hid hv6
         clear hv6 HV6
         have HAr6:=Lib.hid HA6.out
         clear HA6 hF6 HP6 HF6 hS6 HC HR HS0 hl1 e1 e1x
         clear d0 d1 d2 d3 d4 d5 d6 d7 d8 g0 g1 g2 g3 g4 g5 g6 g7 g8
         obtain ⟨w29,hW29⟩:∃ W,W=(((((((((w6.setCell ⟨w26.heap.size,0,none⟩ (.int .i64 6)).setCell ⟨w26.heap.size,1,none⟩ (.int .i64 0)).setCell ⟨w26.heap.size,2,none⟩ (.string ⟨t.text.toArray⟩)).setCell ⟨w26.heap.size,3,none⟩ (.string ⟨#[]⟩)).setCell ⟨w26.heap.size,4,none⟩ (.slice ra1 rn1 rc1)).setCell ⟨w26.heap.size,5,none⟩ (.slice ra2 rn2 rc2)).setCell ⟨w26.heap.size,6,none⟩ (.slice ra3 rn3 rc3)).setCell ⟨w26.heap.size,7,none⟩ (.slice none 0 0)).setCell ⟨w26.heap.size,8,none⟩ (.slice none 0 0)):=⟨_,rfl⟩
         have hP29:=Par.setR (b:=w26.heap.size) (by omega) [.int .i64 6,.int .i64 0,.string ⟨t.text.toArray⟩,.string ⟨#[]⟩,.slice ra1 rn1 rc1,.slice ra2 rn2 rc2,.slice ra3 rn3 rc3,.slice none 0 0,.slice none 0 0] 0 HPr6.out
         have hF29:=Fp.setR (b:=w26.heap.size) (by omega) [.int .i64 6,.int .i64 0,.string ⟨t.text.toArray⟩,.string ⟨#[]⟩,.slice ra1 rn1 rc1,.slice ra2 rn2 rc2,.slice ra3 rn3 rc3,.slice none 0 0,.slice none 0 0] 0 HFr6.out
         have hB29:=Holds.farR (b':=w26.heap.size) (by omega) [.int .i64 6,.int .i64 0,.string ⟨t.text.toArray⟩,.string ⟨#[]⟩,.slice ra1 rn1 rc1,.slice ra2 rn2 rc2,.slice ra3 rn3 rc3,.slice none 0 0,.slice none 0 0] 0 HBr6.out
         have hT29:=Holds.farR (b':=w26.heap.size) (by omega) [.int .i64 6,.int .i64 0,.string ⟨t.text.toArray⟩,.string ⟨#[]⟩,.slice ra1 rn1 rc1,.slice ra2 rn2 rc2,.slice ra3 rn3 rc3,.slice none 0 0,.slice none 0 0] 0 HTr6.out
         have hA29:=Holds.setR [.int .i64 6,.int .i64 0,.string ⟨t.text.toArray⟩,.string ⟨#[]⟩,.slice ra1 rn1 rc1,.slice ra2 rn2 rc2,.slice ra3 rn3 rc3,.slice none 0 0,.slice none 0 0] 0 HAr6.out
         have hV29:=HVr6.out.up (Keep.setR (b:=w26.heap.size) (by show ¬ _;omega) [.int .i64 6,.int .i64 0,.string ⟨t.text.toArray⟩,.string ⟨#[]⟩,.slice ra1 rn1 rc1,.slice ra2 rn2 rc2,.slice ra3 rn3 rc3,.slice none 0 0,.slice none 0 0] 0)
         simp only [setR,Nat.reduceAdd,Nat.zero_add] at hP29 hF29 hB29 hT29 hA29 hV29
         rw [← hW29] at hP29 hF29 hB29 hT29 hA29 hV29
         rw [← hW29]
         have HP29:=Lib.hid hP29
         have HF29:=Lib.hid hF29
         have HB29:=Lib.hid hB29
         have HT29:=Lib.hid hT29
         have HA29:=Lib.hid hA29
         have HV29:=Lib.hid hV29
         clear hP29 hF29 hB29 hT29 hA29 hV29 hW29
         clear HPr6 HFr6 HBr6 HTr6 HAr6 HVr6
         have HC':=needFn HP29.out [41]
         cases h1:need E [41] k with
         | out=>exact absurd h1 need_ne
         | bad c a=>
          rw [h1] at HC' hRr
          have HC:=Lib.hid HC'
          have HR:=Lib.hid hRr
          clear h1 HC' hRr 
          go_wp2_with (fail)
          refine (HC.out).mono ?_
          rintro e wz ⟨rfl,hF⟩
          rw [← HR.out]
          exact ⟨rfl,rfl,HF29.out.trans hF⟩
         | ok u j2=>
          rw [h1] at HC' hRr
          have HC:=Lib.hid HC'
          have HR:=Lib.hid hRr
          clear h1 HC' hRr
          go_wp2_with (fail)
          refine (HC.out).mono ?_
          rintro e w30 ⟨vw30,rfl,hv,hPq,hFq⟩
          have hRr:=HR.out
          try simp only [R.bd] at hRr
          have HP30:=Lib.hid hPq
          have HF30:=Lib.hid (HF29.out.trans hFq)
          have HB30:=Lib.hid (HB29.out.fp hFq (by omega))
          have HT30:=Lib.hid (HT29.out.fp hFq (by omega))
          have HA30:=Lib.hid (HA29.out.fp hFq (by omega))
          have HV30:=Lib.hid (HV29.out.up (Keep.of_fp hFq (by show ¬ _;omega)))
          clear HP29 HF29 HB29 HT29 HA29 HV29
          clear hPq hFq HR HC
          obtain rfl:=hv
          have l0:w30.cell? ⟨w26.heap.size,0,none⟩=some (.int .i64 6):=HA30.out.cell 0
          have l1:w30.cell? ⟨w26.heap.size,1,none⟩=some (.int .i64 0):=HA30.out.cell 1
          have l2:w30.cell? ⟨w26.heap.size,2,none⟩=some (.string ⟨t.text.toArray⟩):=HA30.out.cell 2
          have l3:w30.cell? ⟨w26.heap.size,3,none⟩=some (.string ⟨#[]⟩):=HA30.out.cell 3
          have l4:w30.cell? ⟨w26.heap.size,4,none⟩=some (.slice ra1 rn1 rc1):=HA30.out.cell 4
          have l5:w30.cell? ⟨w26.heap.size,5,none⟩=some (.slice ra2 rn2 rc2):=HA30.out.cell 5
          have l6:w30.cell? ⟨w26.heap.size,6,none⟩=some (.slice ra3 rn3 rc3):=HA30.out.cell 6
          have l7:w30.cell? ⟨w26.heap.size,7,none⟩=some (.slice none 0 0):=HA30.out.cell 7
          have l8:w30.cell? ⟨w26.heap.size,8,none⟩=some (.slice none 0 0):=HA30.out.cell 8
          have d0:w30.cell? ⟨w.heap.size,0,none⟩=some (.int .i64 0):=HB30.out.cell 0
          have g0:w30.frozen? ⟨w.heap.size,0,none⟩=false:=HB30.out.free 0
          have d1:w30.cell? ⟨w.heap.size,1,none⟩=some (.int .i64 0):=HB30.out.cell 1
          have g1:w30.frozen? ⟨w.heap.size,1,none⟩=false:=HB30.out.free 1
          have d2:w30.cell? ⟨w.heap.size,2,none⟩=some (.string ⟨#[]⟩):=HB30.out.cell 2
          have g2:w30.frozen? ⟨w.heap.size,2,none⟩=false:=HB30.out.free 2
          have d3:w30.cell? ⟨w.heap.size,3,none⟩=some (.string ⟨#[]⟩):=HB30.out.cell 3
          have g3:w30.frozen? ⟨w.heap.size,3,none⟩=false:=HB30.out.free 3
          have d4:w30.cell? ⟨w.heap.size,4,none⟩=some (.slice none 0 0):=HB30.out.cell 4
          have g4:w30.frozen? ⟨w.heap.size,4,none⟩=false:=HB30.out.free 4
          have d5:w30.cell? ⟨w.heap.size,5,none⟩=some (.slice none 0 0):=HB30.out.cell 5
          have g5:w30.frozen? ⟨w.heap.size,5,none⟩=false:=HB30.out.free 5
          have d6:w30.cell? ⟨w.heap.size,6,none⟩=some (.slice none 0 0):=HB30.out.cell 6
          have g6:w30.frozen? ⟨w.heap.size,6,none⟩=false:=HB30.out.free 6
          have d7:w30.cell? ⟨w.heap.size,7,none⟩=some (.slice none 0 0):=HB30.out.cell 7
          have g7:w30.frozen? ⟨w.heap.size,7,none⟩=false:=HB30.out.free 7
          have d8:w30.cell? ⟨w.heap.size,8,none⟩=some (.slice none 0 0):=HB30.out.cell 8
          have g8:w30.frozen? ⟨w.heap.size,8,none⟩=false:=HB30.out.free 8
          have HZ:=Lib.hid hRr
          clear hRr
          go_wp2
          exact ast_end2 (x:=.len t.text r) (P:=From (w26.heap.size + 1)) Tryz.results114 rfl rfl HB30.out (by unfold Ast.len;exact HV30.out.ast) (by show ¬ _;omega) (by intro k hk;have hk2:w26.heap.size ≤ k:=(by first | exact hk.1 | exact Nat.le_trans (Nat.le_succ _) hk);omega) (Nat.le_refl _) hp1 HP30.out HF30.out HZ.out.symm rfl rfl rfl rfl
     | false=>
      rw [if_neg (by rw [hs];decide)] at hRr
      have HT:=Lib.hid (takes_no HP24.out [[108,101,110],[102,117,108,108],[101,109,112,116,121],[110,102,117,108,108],[110,101,109,112,116,121]] HL.out (by simp) hs)
      clear hs HL
      have HQ:=Lib.hid hRr
      clear hRr
      go_wp2_with (fail)
      refine (HT.out).mono ?_
      rintro e w25 ⟨rfl,hbq⟩
      have hRr:=HQ.out
      clear HQ
      have HP25:=Lib.hid (HP24.out.belowAll hbq)
      have HF25:=Lib.hid (HF24.out.bel hbq)
      have HB25:=Lib.hid (HB24.out.belowAll hbq)
      have HT25:=Lib.hid (HT24.out.belowAll hbq)
      clear HP24 HF24 HB24 HT24
      clear hbq HT
      have hw':=wrongFn HP25.out
      rw [wrong_eq] at hRr
      have HC:=Lib.hid hw'
      have HR:=Lib.hid hRr
      clear hw' hRr ih
      go_wp2_with (fail)
      refine (HC.out).mono ?_
      rintro e wz ⟨rfl,hb⟩
      rw [← HR.out]
      exact ⟨rfl,rfl,HF25.out.bel hb⟩
end Go.Proofs.YtpoghableadkcaaGreatDoor
