/- The walk of net.Explore at any system (printed by mkgxp.py out of XExp). -/
import Derived.Test.YtokkjifmgmngjaaGmv
import Derived.Test.YtokkjifmgmngjaaMg3
namespace Go.Proofs.Ytokkjifmgmngjaa.G
open Go.RowKit Go.Maps
set_option linter.unusedVariables false
set_option linter.unusedSimpArgs false
attribute [local go_sem] Oper.semAt_some run_makeMap

end Go.Proofs.Ytokkjifmgmngjaa.G
