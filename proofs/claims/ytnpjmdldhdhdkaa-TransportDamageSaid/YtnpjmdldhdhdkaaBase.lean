/- Base: data types of the program's values. -/
import Derived.Test.YtnpjmdldhdhdkaaSk
import Derived.Test.YtnpjmdldhdhdkaaChecked
namespace Go.RS
open Go.SX Go.Proofs
set_option maxRecDepth 100000
set_option linter.unusedVariables false

theorem hmix : Try.prog.follows .mixedOrders = true := Try.checked.mixed

abbrev cI : CT := .int .i64
abbrev cU8 : CT := .int .u8
abbrev cU32 : CT := .int .u32
abbrev cU64 : CT := .int .u64
abbrev cCodes : CT := .pair (.sl cU8) cI
abbrev cBucket : CT := .pair cI cI
abbrev cTokens : CT := .pair cI cI
abbrev cKey : CT := .pair cU32 (.pair cU32 (.pair cI (.pair cI cI)))

/-- The numbers of choices: the place lies within. -/
def okC (c : List Int × Int) : Prop := 0 ≤ c.2 ∧ c.2 ≤ c.1.length
end Go.RS

