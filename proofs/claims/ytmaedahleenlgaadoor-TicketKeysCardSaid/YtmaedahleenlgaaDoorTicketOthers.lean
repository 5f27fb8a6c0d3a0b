/- The walk of TicketOthers. No condition but the table of bit places. -/
import Derived.Test.YtmaedahleenlgaaDoorTicketIssues
import Derived.Test.YtmaedahleenlgaaDoorTicketOthers0
import Derived.Deep.RegionHeldLaw
set_option linter.unusedVariables false
set_option linter.unusedSimpArgs false
namespace Go.Proofs.YtmaedahleenlgaaDoor
open Go Go.RowKit Go.WideMaps

end Go.Proofs.YtmaedahleenlgaaDoor
