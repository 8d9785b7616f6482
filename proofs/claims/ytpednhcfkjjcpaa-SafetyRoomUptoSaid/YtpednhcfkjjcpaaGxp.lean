/- The walk of net.Explore at any system (printed by mkgxp.py out of XExp). -/
import Derived.Test.YtpednhcfkjjcpaaGmv
import Derived.Test.YtpednhcfkjjcpaaMg5
namespace Go.Proofs.Ytpednhcfkjjcpaa.G
open Go.RowKit Go.Maps
set_option linter.unusedVariables false
set_option linter.unusedSimpArgs false
attribute [local go_sem] Oper.semAt_some run_makeMap

end Go.Proofs.Ytpednhcfkjjcpaa.G
