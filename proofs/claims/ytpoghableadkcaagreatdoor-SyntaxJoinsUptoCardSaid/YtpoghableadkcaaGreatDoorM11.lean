/- Reg, Rfs, joined. -/
import Derived.Deep.RegionHeld3
import Derived.Maps.AppendAt
import Derived.Test.YtpoghableadkcaaGreatDoorExp8
import Derived.Test.YtpoghableadkcaaGreatDoorM08
section
/- A region that draws its order: loads are taken first also where the region's last operations, which wait for them, store into the cells that they read. -/
namespace Go.Proofs.YtpoghableadkcaaGreatDoor
open Go
set_option linter.unusedVariables false
set_option linter.unusedSectionVars false

section
variable {P:Program} {ops:Array Oper} {Q:Exit→Act→World→Prop} {md:Region.Mode} {S:World→Prop}

/-- None of these has come up. -/
def noneOf (ts:List Nat) (L:Array Bool):Bool:=ts.all fun s=>!(L.getD s true)
theorem noneOf_set {ts:List Nat} {L:Array Bool} {j:Nat} (h:j ∉ ts):noneOf ts (L.setIfInBounds j true)=noneOf ts L:=by
 unfold noneOf
 rw [Bool.eq_iff_iff,List.all_eq_true,List.all_eq_true]
 constructor <;> intro h' s hs
 ·have:=h' s hs
  have hne:j ≠ s:=fun e=>h (by rw [e];exact hs)
  rw [getD_set_ne true hne] at this;exact this
 ·have hne:j ≠ s:=fun e=>h (by rw [e];exact hs)
  rw [getD_set_ne true hne];exact h' s hs

/-- Whatever order is picked from here on;S holds as long as none of ts has come up. -/
def wpAnyT (P:Program) (md:Region.Mode) (ops:Array Oper) (Q:Exit→Act→World→Prop) (S:World→Prop) (ts:List Nat):Nat→Array Bool→Act→World→Prop
 | 0,listed,a,w=>Region.ready md ops listed=[]∧Q .normal a w
 | fuel + 1,listed,a,w=>
  (Region.ready md ops listed=[]→Q .normal a w) ∧
  ∀ i ∈ Region.ready md ops listed,wpOp P ops Q i (fun a' w'=>(noneOf ts (listed.setIfInBounds i true)=true→S w')∧wpAnyT P md ops Q S ts fuel (listed.setIfInBounds i true) a' w') a w

theorem wpAny_of_T {ts:List Nat}:∀ (fuel:Nat) (listed:Array Bool) (a:Act) (w:World),wpAnyT P md ops Q S ts fuel listed a w→wpAny P md ops Q fuel listed a w
 | 0,_,_,_,h=>h
 | fuel + 1,_,_,_,h=>⟨h.1,fun i hi=>wpOp_mono (fun a' w' h'=>wpAny_of_T fuel _ a' w' h'.2) (h.2 i hi)⟩

theorem wpAnyT_first {ts gs:List Nat} {i:Nat} {oi:Oper} {v:Value} (hi:ops[i]?=some oi) (hsel:∀ (j:Nat) (o:Oper) cs b,ops[j]?=some o→o.op ≠ .select cs b)
  (hQ:∀ c a w,Q (.panic c) (a.put oi.dst v) w→Q (.panic c) a w) (hit:i ∉ gs) (hsub:∀ s ∈ ts,s ∈ gs)
  (hts:∀ s ∈ gs,∀ o,ops[s]?=some o→∃ e ∈ o.after,Region.binds md e=true∧(e.on=i∨e.on ∈ gs)):
  ∀ (fuel:Nat) (listed:Array Bool) (a:Act) (w:World),
   (∀ j oj,ops[j]?=some oj→j ≠ i→listed.getD j true=false→(∀ e ∈ oj.after,Region.binds md e=true→e.on ≠ i)→oi.apart ops oj=true) →
   i ∈ Region.ready md ops listed→YieldsIf P ops S oi v a→noneOf gs listed=true→S w →
   wpAnyT P md ops Q S ts fuel (listed.setIfInBounds i true) (a.put oi.dst v) w→wpAnyT P md ops Q S ts (fuel + 1) listed a w:=by
 intro fuel
 induction fuel with
 | zero=>
  intro listed a w _ hr hy hn hS H
  refine ⟨fun h=>(by rw [h] at hr;cases hr),fun j hj=>?_⟩
  by_cases hji:j=i
  ·subst hji;exact hy.wpOp hi hS ⟨fun _=>hS,H⟩
  ·have:=ready_mono hj hji
   rw [H.1] at this
   cases this
 | succ fuel ih=>
  intro listed a w hfree hr hy hn hS H
  refine ⟨fun h=>(by rw [h] at hr;cases hr),fun j hj=>?_⟩
  by_cases hji:j=i
  ·subst hji;exact hy.wpOp hi hS ⟨fun _=>hS,H⟩
  ·have h1:=H.2 j (ready_mono hj hji)
   obtain ⟨hjun,oj,hoj,hall⟩:=mem_ready.1 hj
   have hnot:∀ e ∈ oj.after,Region.binds md e=true→e.on ≠ i:=fun e he hb heq=>by
    have h1:=hall e he hb
    have h0:=(mem_ready.1 hr).1
    rw [heq] at h1
    rcases Nat.lt_or_ge i listed.size with h' | h'
    ·simp [h'] at h0 h1;rw [h0] at h1;cases h1
    ·simp [Array.getElem?_eq_none h'] at h1
   have hjg:j ∉ gs:=fun hm=>by
    obtain ⟨e,he,hb,ho⟩:=hts j hm oj hoj
    rcases ho with ho | ho
    ·exact hnot e he hb ho
    ·have h1:=hall e he hb
     have h0:=List.all_eq_true.1 hn e.on ho
     rcases Nat.lt_or_ge e.on listed.size with h' | h'
     ·simp [h'] at h0 h1;rw [h0] at h1;cases h1
     ·simp [Array.getD,Nat.not_lt.2 h'] at h0
   have hjt:j ∉ ts:=fun hm=>hjg (hsub j hm)
   have h2:=wpOp_putIf hoj (hfree j oj hoj hji hjun hnot) (fun cs b=>hsel i oi cs b hi) (fun cs b=>hsel j oj cs b hoj) hQ hy h1
   have hfree':∀ k ok,ops[k]?=some ok→k ≠ i→(listed.setIfInBounds j true).getD k true=false →
     (∀ e ∈ ok.after,Region.binds md e=true→e.on ≠ i)→oi.apart ops ok=true:=fun k ok hk hki hun hno=>by
    refine hfree k ok hk hki ?_ hno
    by_cases hjk:j=k
    ·subst hjk;exact hjun
    ·rw [getD_set_ne true hjk] at hun;exact hun
   have hn':noneOf gs (listed.setIfInBounds j true)=true:=by rw [noneOf_set hjg];exact hn
   have hn0:noneOf ts listed=true:=List.all_eq_true.2 fun s hs=>List.all_eq_true.1 hn s (hsub s hs)
   have hn'':noneOf ts ((listed.setIfInBounds i true).setIfInBounds j true)=true:=by rw [noneOf_set hjt,noneOf_set (fun h=>hit (hsub i h))];exact hn0
   refine wpOp_mono (fun a' w' h3=>⟨fun _=>h3.2.1 hn'',ih (listed.setIfInBounds j true) a' w' hfree' (ready_mono hr (Ne.symm hji)) h3.1 hn' (h3.2.1 hn'') ?_⟩) h2
   rw [Array.setIfInBounds_comm _ _ hji]
   exact h3.2.2

/-- Do all of gs wait for number i,or for another of them? -/
def waits (md:Region.Mode) (ops:Array Oper) (gs:List Nat) (i:Nat):Bool:=
 gs.all fun s=>s != i && match ops[s]? with | some o=>o.after.any (fun e=>Region.binds md e && (e.on == i || gs.contains e.on)) | none=>true
theorem wpAnyT_take {ts:List Nat} (gs:List Nat) {i:Nat} {oi:Oper} {v:Value} {fuel:Nat} {listed:Array Bool} {a:Act} {w:World} (hi:ops[i]?=some oi)
  (hs:Region.noSelect ops=true) (hf:Region.free md ops listed i=true) (hr:(Region.ready md ops listed).contains i=true) (hw:waits md ops gs i=true) (hsub:ts.all (gs.contains ·)=true) (hn:noneOf gs listed=true)
  (hQ:∀ c a w,Q (.panic c) (a.put oi.dst v) w→Q (.panic c) a w) (hy:YieldsIf P ops S oi v a) (hS:S w)
  (h:wpAnyT P md ops Q S ts fuel (listed.setIfInBounds i true) (a.put oi.dst v) w):wpAnyT P md ops Q S ts (fuel + 1) listed a w:=by
 unfold waits at hw
 rw [List.all_eq_true] at hw
 refine wpAnyT_first (gs:=gs) hi (Region.noSelect_spec hs) hQ (fun hm=>by have:=hw i hm;simp at this) (fun s hs'=>by have:=List.all_eq_true.1 hsub s hs';simpa using this) (fun s hs' o ho=>?_) fuel listed a w (Region.free_spec hi hf) (by simpa using hr) hy hn hS h
 have:=hw s hs'
 rw [Bool.and_eq_true,ho] at this
 obtain ⟨e,he,hb⟩:=Array.any_eq_true'.1 this.2
 simp only [Bool.and_eq_true,beq_iff_eq,Bool.or_eq_true,List.contains_iff_mem] at hb
 exact ⟨e,he,hb.1,hb.2⟩

/-- The steps of all that may come up. -/
def AllReadyT (P:Program) (md:Region.Mode) (ops:Array Oper) (Q:Exit→Act→World→Prop) (S:World→Prop) (ts:List Nat) (fuel:Nat) (listed:Array Bool) (a:Act) (w:World) (rs:List Nat):Prop:=
 ∀ i ∈ rs,wpOp P ops Q i (fun a' w'=>(noneOf ts (listed.setIfInBounds i true)=true→S w')∧wpAnyT P md ops Q S ts fuel (listed.setIfInBounds i true) a' w') a w
theorem AllReadyT.nil {ts:List Nat} {fuel:Nat} {listed:Array Bool} {a:Act} {w:World}:AllReadyT P md ops Q S ts fuel listed a w []:=fun _ h=>by cases h
theorem AllReadyT.cons {ts:List Nat} {fuel:Nat} {listed:Array Bool} {a:Act} {w:World} {i:Nat} {o:Oper} {rs:List Nat} (ho:ops[i]?=some o)
  (h:∀ K':Act→World→Prop,Shut (∀ a w,(noneOf ts (listed.setIfInBounds i true)=true→S w)→wpAnyT P md ops Q S ts fuel (listed.setIfInBounds i true) a w→K' a w)→if Region.wanted o (yielded ops a.tmps)=true then Oper.wp P o a w K' Q else K' (a.put o.dst undef) w)
  (hs:AllReadyT P md ops Q S ts fuel listed a w rs):AllReadyT P md ops Q S ts fuel listed a w (i :: rs):=fun j hj=>by
 rcases List.mem_cons.1 hj with rfl | hj
 ·exact wpOp_step ho (fun K' hK=>h K' (fun a w hS hW=>hK a w ⟨hS,hW⟩))
 ·exact hs j hj
theorem wpAnyT_ready {ts:List Nat} {rs:List Nat} {fuel:Nat} {listed:Array Bool} {a:Act} {w:World} (hr:Region.ready md ops listed=rs) (hne:rs ≠ [])
  (h:AllReadyT P md ops Q S ts fuel listed a w rs):wpAnyT P md ops Q S ts (fuel + 1) listed a w:=⟨fun h0=>absurd (hr ▸ h0) hne,hr ▸ h⟩
theorem wpAnyT_done {ts:List Nat} {listed:Array Bool} {a:Act} {w:World} (hr:Region.ready md ops listed=[]) (h:Q .normal a w):
  ∀ fuel,wpAnyT P md ops Q S ts fuel listed a w
 | 0=>⟨hr,h⟩
 | _ + 1=>⟨fun _=>h,by rw [hr];simp⟩
theorem wp_region_T {id:Nat} {a:Act} {w:World} (ts:List Nat) (hm:P.follows .mixedOrders=true)
  (h:wpAnyT P .any ops Q S ts ops.size (Array.replicate ops.size false) a w.drew):(Code.region id ops true).wp P Q a w:=
 wp_region_any hm (wpAny_of_T _ _ _ _ h)
theorem wp_append_own_at {o:Oper} {a:Act} {w:World} {K:Act→World→Prop} {Q:Exit→Act→World→Prop} (s x:Operand) (t:TypeId)
  (ho:o.op=.call { callee:=.builtin .append,args:=#[s,x],argTypes:=#[t,t] })
  (base:Nat) (e:TypeId) (i:TypeInfo) (z:Value) (size bytes:Nat) (ht:P.underlying t=some (.slice e)) (hi:P.info? e=some i) (hz:i.zero=some z)
  (hsize:i.size=size) (hby:i.bytes=bytes) (hzs:z.cells.size=size) (hsz:0 < size)
  (v:Value) (n:Nat) (xs:List Value) (hs:a.eval s=v) (hown:w.ownsRow base e size v n xs)
  (ad:Addr) (m c:Nat) (news:List Value) (hx:a.eval x=.slice (some ad) m c) (hl:news.length=m * size) (hnews:∀ j u,news[j]?=some u→w.cell? (ad.add j)=some u) (h1:∀ u ∈ news,u.oneCell'=true)
  (h63:n + m ≤ maxLen) (hbytes:(n + m) * bytes ≤ 140737488355328) (hbase:base ≤ w.heap.size)
  (h:∀ v' w',w'.ownsRow base e size v' (n + m) (xs ++ news)→w.grownBy w' v.ownBlock→(v'.ownBlock=v.ownBlock∨v'.ownBlock=some w.heap.size)→K (a.put o.dst v') w'):
  o.wp P a w K Q:=by
 obtain ⟨v',w',hr,h2,h3,h4,h5⟩:=run_append_own_at (P:=P) w base t o.type e i z size bytes ht hi hz hsize hby hzs hsz v n xs hown ad m c news hl hnews h1 h63 hbytes hbase
 unfold Oper.wp execOp
 simp only [ho,resolve,invoke,builtin,Sem.run_bind,Sem.run_pure,Result.andThen_ok,List.map_toArray,List.map_cons,List.map_nil,hs,hx,hr]
 exact h _ _ h2 h3 h5
end
end Go.Proofs.YtpoghableadkcaaGreatDoor
end
section
/- What the loop of ref keeps. -/
namespace Go.Proofs.YtpoghableadkcaaGreatDoor
open Go.RowKit
set_option linter.unusedVariables false
set_option linter.unusedSimpArgs false

theorem bool_info:(Tryz.prog.info? 4).map (fun i=>(i.zero.map fun z=>z.cells.size,i.size,i.bytes))=some (some 1,1,1):=by kernel_rfl
theorem owns_ne_owns {w:World} {b b':Nat} {e e':TypeId} {s s' n n':Nat} {v v':Value} {xs xs':List Value} (h:w.ownsRow b e s v n xs) (h':w.ownsRow b' e' s' v' n' xs') (hne:e ≠ e') {g:Nat} (hg:v.ownBlock=some g):v'.ownBlock ≠ some g:=by
 rcases h.2 with ⟨rfl,_⟩ | ⟨g1,cap,cur,rfl,_,hh,_⟩
 ·simp [Value.ownBlock] at hg
 ·have h1:g1=g:=by simpa [Value.ownBlock] using hg
  subst h1
  exact owns_ne_holds (t:=e) (cs:=cur.toList) (g:=g1) h' (by unfold Holds;rw [hh]) (Ne.symm hne)
theorem owns_form {w:World} {base size n:Nat} {e:TypeId} {v:Value} {xs:List Value} (h:w.ownsRow base e size v n xs):∃ a cap,v=.slice a n cap∧n ≤ cap∧cap ≤ 9223372036854775807:=by
 obtain ⟨a,c,h1,h2,h3,_⟩:=(RowL.of_owns (P:=fun _=>True) h (fun _ _=>trivial)).form
 exact ⟨a,c,h1,h2,h3⟩
/-- Outside three rows. -/
abbrev But3 (base:Nat) (a b c:Value):Nat→Prop:=fun k=>base ≤ k∧a.ownBlock ≠ some k∧b.ownBlock ≠ some k∧c.ownBlock ≠ some k

structure RefSt (w:World) (p:Nat) (vl:Value) (E:Env) (j:Nat) (xs:List Value) (vn vi vh:Value) (kn ki kh:Nat) (ns:List Bs) (is:List Ast) (hs:List Bool) (fl:List Value) (W:World):Prop where
 box:Holds W w.heap.size 38 xs
 n:W.ownsRow (w.heap.size + 1) 9 1 vn kn (ns.map strV)
 i:W.ownsRow (w.heap.size + 1) 41 9 vi ki fl
 h:W.ownsRow (w.heap.size + 1) 4 1 vh kh (hs.map .bool)
 a:AstsF (But3 (w.heap.size + 1) vn vi vh) W is fl
 par:Par W p vl E j
 fp:Fp p w W
 lt:p < w.heap.size
section
variable {w W W':World} {p j j' kn ki kh:Nat} {vl vn vi vh:Value} {E:Env} {xs fl:List Value} {ns:List Bs} {is:List Ast} {hs:List Bool}
theorem RefSt.base (h:RefSt w p vl E j xs vn vi vh kn ki kh ns is hs fl W):w.heap.size < W.heap.size:=h.box.lt
theorem RefSt.fpc (h:RefSt w p vl E j xs vn vi vh kn ki kh ns is hs fl W) (hF:Fp p W W') (hP:Par W' p vl E j'):RefSt w p vl E j' xs vn vi vh kn ki kh ns is hs fl W':=by
 obtain ⟨h1,h2,h3,h4,h5,h6,h7,h8⟩:=h
 exact ⟨h1.fp hF h8,owns_fp h2 hF (by omega),owns_fp h3 hF (by omega),owns_fp h4 hF (by omega),h5.up (Keep.of_fp hF (by show ¬ _;omega)),hP,h7.trans hF,h8⟩
theorem RefSt.below (h:RefSt w p vl E j xs vn vi vh kn ki kh ns is hs fl W) (hb:Below W.heap.size W W'):RefSt w p vl E j xs vn vi vh kn ki kh ns is hs fl W':=h.fpc (Fp.of_below hb) (h.par.belowAll hb)
theorem RefSt.alloc (h:RefSt w p vl E j xs vn vi vh kn ki kh ns is hs fl W) (o:Obj):RefSt w p vl E j xs vn vi vh kn ki kh ns is hs fl (W.alloc o):=h.below ((Below.refl _ _).alloc (Nat.le_refl _) _)
theorem RefSt.drew (h:RefSt w p vl E j xs vn vi vh kn ki kh ns is hs fl W):RefSt w p vl E j xs vn vi vh kn ki kh ns is hs fl W.drew:=by
 obtain ⟨h1,h2,h3,h4,h5,h6,h7,h8⟩:=h
 exact ⟨h1,h2,h3,h4,AstsF.up (show Keep (But3 (w.heap.size + 1) vn vi vh) W W.drew from fun k _ _=>rfl) is h5,h6.drew,h7.drew,h8⟩
theorem RefSt.set (h:RefSt w p vl E j xs vn vi vh kn ki kh ns is hs fl W) (m:Nat) (u:Value):RefSt w p vl E j (xs.set m u) vn vi vh kn ki kh ns is hs fl (W.setCell ⟨w.heap.size,m,none⟩ u):=by
 obtain ⟨h1,h2,h3,h4,h5,h6,h7,h8⟩:=h
 have hF:Fr (fun k=>k=w.heap.size) W (W.setCell ⟨w.heap.size,m,none⟩ u):=Fr.setCell (F:=fun k=>k=w.heap.size) (p:=⟨w.heap.size,m,none⟩) (Fr.refl _ _) (fun _=>rfl) u
 refine ⟨h1.put m u,Fr.owns hF h2 fun g e=>by have:=owns_ge h2 g e;show ¬ _;omega,Fr.owns hF h3 fun g e=>by have:=owns_ge h3 g e;show ¬ _;omega,Fr.owns hF h4 fun g e=>by have:=owns_ge h4 g e;show ¬ _;omega,h5.up fun k hk hs=>hF.block k hs (by have:=hk.1;show ¬ _;omega),h6.far (a:=⟨w.heap.size,m,none⟩) h8 u,h7.far (Nat.le_refl _) m u,h8⟩
/-- A row has grown: what that leaves alone. -/
theorem RefSt.grown_n {vn':Value} {s:Bs} (h:RefSt w p vl E j xs vn vi vh kn ki kh ns is hs fl W) (hg:W.grownBy W' vn.ownBlock) (ho:W'.ownsRow (w.heap.size + 1) 9 1 vn' (kn + 1) (ns.map strV ++ [strV s])) (hat:vn'.ownBlock=vn.ownBlock∨vn'.ownBlock=some W.heap.size):
  RefSt w p vl E j xs vn' vi vh (kn + 1) ki kh (ns ++ [s]) is hs fl W':=by
 obtain ⟨h1,h2,h3,h4,h5,h6,h7,h8⟩:=h
 have hF:Fr (fun k=>vn.ownBlock=some k) W W':=Fr.grown (Fr.refl _ _) hg fun k e _=>e
 refine ⟨Fr.holds hF h1 (fun e=>by have:=owns_ge h2 _ e;omega),by rw [List.map_append];exact ho,Fr.owns hF h3 fun g e e'=>owns_ne_owns h2 h3 (by decide) e' e,Fr.owns hF h4 fun g e e'=>owns_ne_owns h2 h4 (by decide) e' e,?_,?_,Fr.grown h7 hg fun k e _=>by have:=owns_ge h2 k e;omega,h8⟩
 ·refine (AstsF.mono (Q:=fun k=>But3 (w.heap.size + 1) vn vi vh k∧k < W.heap.size) (fun k hk hs=>⟨hk,hs⟩) is h5).up (fun k hk hs=>hF.block k hs hk.1.2.1) is |> AstsF.mono (fun k hk _=>⟨hk.1.1,?_,hk.1.2.2.1,hk.1.2.2.2⟩) is
  rcases hat with e | e
  ·rw [e];exact hk.1.2.1
  ·rw [e];intro e';injection e' with e';have:=hk.2;omega
 ·exact h6.grown hg fun g e=>by have:=owns_ge h2 g e;omega
theorem RefSt.grown_i {vi':Value} {x:Ast} {an ai ah ak aa:Value} (h:RefSt w p vl E j xs vn vi vh kn ki kh ns is hs fl W) (hg:W.grownBy W' vi.ownBlock) (ho:W'.ownsRow (w.heap.size + 1) 41 9 vi' (ki + 1) (fl ++ Ast.cells x an ai ah ak aa)) (hat:vi'.ownBlock=vi.ownBlock∨vi'.ownBlock=some W.heap.size)
  (hx:AstF (But3 (w.heap.size + 1) vn vi vh) W x an ai ah ak aa):RefSt w p vl E j xs vn vi' vh kn (ki + 1) kh ns (is ++ [x]) hs (fl ++ Ast.cells x an ai ah ak aa) W':=by
 obtain ⟨h1,h2,h3,h4,h5,h6,h7,h8⟩:=h
 have hF:Fr (fun k=>vi.ownBlock=some k) W W':=Fr.grown (Fr.refl _ _) hg fun k e _=>e
 refine ⟨Fr.holds hF h1 (fun e=>by have:=owns_ge h3 _ e;omega),Fr.owns hF h2 fun g e e'=>owns_ne_owns h3 h2 (by decide) e' e,ho,Fr.owns hF h4 fun g e e'=>owns_ne_owns h3 h4 (by decide) e' e,?_,?_,Fr.grown h7 hg fun k e _=>by have:=owns_ge h3 k e;omega,h8⟩
 ·refine (AstsF.mono (Q:=fun k=>But3 (w.heap.size + 1) vn vi vh k∧k < W.heap.size) (fun k hk hs=>⟨hk,hs⟩) (is ++ [x]) (AstsF.append h5 (AstsF.sing hx))).up (fun k hk hs=>hF.block k hs hk.1.2.2.1) (is ++ [x]) |> AstsF.mono (fun k hk _=>⟨hk.1.1,hk.1.2.1,?_,hk.1.2.2.2⟩) (is ++ [x])
  rcases hat with e | e
  ·rw [e];exact hk.1.2.2.1
  ·rw [e];intro e';injection e' with e';have:=hk.2;omega
 ·exact h6.grown hg fun g e=>by have:=owns_ge h3 g e;omega
theorem RefSt.grown_h {vh':Value} {b:Bool} (h:RefSt w p vl E j xs vn vi vh kn ki kh ns is hs fl W) (hg:W.grownBy W' vh.ownBlock) (ho:W'.ownsRow (w.heap.size + 1) 4 1 vh' (kh + 1) (hs.map .bool ++ [.bool b])) (hat:vh'.ownBlock=vh.ownBlock∨vh'.ownBlock=some W.heap.size):
  RefSt w p vl E j xs vn vi vh' kn ki (kh + 1) ns is (hs ++ [b]) fl W':=by
 obtain ⟨h1,h2,h3,h4,h5,h6,h7,h8⟩:=h
 have hF:Fr (fun k=>vh.ownBlock=some k) W W':=Fr.grown (Fr.refl _ _) hg fun k e _=>e
 refine ⟨Fr.holds hF h1 (fun e=>by have:=owns_ge h4 _ e;omega),Fr.owns hF h2 fun g e e'=>owns_ne_owns h4 h2 (by decide) e' e,Fr.owns hF h3 fun g e e'=>owns_ne_owns h4 h3 (by decide) e' e,by rw [List.map_append];exact ho,?_,?_,Fr.grown h7 hg fun k e _=>by have:=owns_ge h4 k e;omega,h8⟩
 ·refine (AstsF.mono (Q:=fun k=>But3 (w.heap.size + 1) vn vi vh k∧k < W.heap.size) (fun k hk hs=>⟨hk,hs⟩) is h5).up (fun k hk hs=>hF.block k hs hk.1.2.2.2) is |> AstsF.mono (fun k hk _=>⟨hk.1.1,hk.1.2.1,hk.1.2.2.1,?_⟩) is
  rcases hat with e | e
  ·rw [e];exact hk.1.2.2.2
  ·rw [e];intro e';injection e' with e';have:=hk.2;omega
 ·exact h6.grown hg fun g e=>by have:=owns_ge h4 g e;omega
/-- What a new thing's blocks are. -/
theorem RefSt.wide (h:RefSt w p vl E j xs vn vi vh kn ki kh ns is hs fl W) {lo:Nat} (hl:W.heap.size ≤ lo):∀ k,lo ≤ k→But3 (w.heap.size + 1) vn vi vh k:=fun k hk=>
 ⟨by have:=h.base;omega,fun e=>by have:=owns_lt h.n k e;omega,fun e=>by have:=owns_lt h.i k e;omega,fun e=>by have:=owns_lt h.h k e;omega⟩
theorem RefSt.out (h:RefSt w p vl E j xs vn vi vh kn ki kh ns is hs fl W) (h1:kn=ns.length) (h2:ki=is.length) (h3:kh=hs.length):RfV (From w.heap.size) W (.agg #[vn,vi,vh]) ⟨ns,is,hs⟩:=by
 subst h1 h2 h3
 exact ⟨vn,vi,vh,rfl,RowL.of_owns h.n (fun k hk=>by show _ ≤ k;omega),⟨fl,RowL.of_owns h.i (fun k hk=>by show _ ≤ k;omega),AstsF.mono (fun k hk _=>by have:=hk.1;show _ ≤ k;omega) is h.a⟩,RowL.of_owns h.h (fun k hk=>by show _ ≤ k;omega)⟩
end
end Go.Proofs.YtpoghableadkcaaGreatDoor
end
