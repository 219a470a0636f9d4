/- FnExactGoodBoard returns true for every board. Conditions: none. -/
import Derived.Test.YtpepkpikeggceaaDoorBoard1
namespace Go.Proofs.YtpepkpikeggceaaDoor
open Go.RowKit
set_option linter.unusedVariables false

end Go.Proofs.YtpepkpikeggceaaDoor
