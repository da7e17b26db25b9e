/- Draw: the choices of a law, with loose contracts: a number in its range. -/
import Derived.Test.YtdegakknelbjiaaDoorBase
namespace Go.RS
open Go.SX Go.Proofs
set_option maxRecDepth 100000
set_option linter.unusedVariables false




end Go.RS

