/- Laid, joined. -/
import Derived.Test.YtpoghableadkcaaDoorCards
import Derived.Test.YtpoghableadkcaaDoorTie
import Derived.Test.YtpoghableadkcaaDoorM23
import Derived.WalkKit
import Derived.ProofKit
import Derived.OpenShut
import Derived.ShutString
import Derived.LaidMore
import Derived.Stop.Joined
import Derived.Deep.DeepHandedRow
import Derived.Deep.DeepWitnessRowRef
import Derived.Lib.LaidTab
section
/- What the rows' list gives the walks; the world that the door's own run leaves. -/
namespace Go.Proofs.YtpoghableadkcaaDoor
open Go.ChangeShapes Go.WideShapes Go.ChangeAt Go.RowKit
set_option linter.unusedVariables false

theorem own:ownKnob Tryd.prog.godebug=none:=by kernel_rfl
def lexLaid:List (String × DataW Unit):=[("unicode.White_Space",Rows.laid_unicode_White_Space),("strings.asciiSpace",Rows.laid_strings_asciiSpace)]
theorem asciiType:(Tryd.prog.globals[0]?).map (·.type)=some 128:=by kernel_rfl
theorem cellsT:Tryd.prog.cellsOf 128=256:=by kernel_rfl
theorem cells5:Tryd.prog.cellsOf 5=1:=by kernel_rfl
theorem asciiData:(Rows.laid_strings_asciiSpace:DataW Unit)=Lib.tabData .u8 Lib.asciiSpaceTab:=by kernel_rfl

theorem tab_of {W:World} (h:laidMetH Tryd.prog lexLaid W):Lib.TabIs Tryd.prog W "strings.asciiSpace" .u8 Lib.asciiSpaceTab:=by
 rw [MakeChecks.laidMetH_plain _ _ _ (by kernel_rfl)] at h
 obtain ⟨ps,⟨g0,t0,cs0,f0,p0,q0,hg0,ht0,hv0,hd0,⟨g1,t1,cs1,f1,p1,q1,hg1,ht1,hv1,hd1,_,_⟩,_⟩,_,_⟩:=h
 obtain rfl:=Option.some.inj (tab_at.symm.trans hg1)
 obtain rfl:=Option.some.inj (asciiType.symm.trans ht1)
 unfold Lib.TabIs
 rw [asciiData] at hd1
 rw [hv1,← Lib.cells_of_tab Tryd.underlying128 Tryd.underlying5 cells5 cellsT hd1]

theorem sound_of {W:World} (h:laidMetH Tryd.prog lexLaid W) (hs:W.ShapedOpen Tryd.prog):Wd W:=by
 obtain ⟨m,hm⟩:=Tryd.laysM143.s1_3 W hs
 have hm':W.cell? ⟨1,0,none⟩=some (.int .i64 m):=hm
 exact ⟨⟨m,hm'⟩,World.block_lt_of_cell? W _ hm',tab_of h⟩

theorem door_met (os:Os) (args:Array Value):laidMetH Tryd.prog lexLaid ((World.doorLaid Tryd.prog 400 os).forCall (fun _ _=>0) ⟨#[],args,[]⟩).memory:=
 laidMetH_of_parts3 (fuel:=8) (laidMet_of_run' 8 (by kernel_rfl) (by kernel_rfl)) (by kernel_rfl) (by kernel_rfl)
end Go.Proofs.YtpoghableadkcaaDoor
end
