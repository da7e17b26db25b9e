/- Base: data types of the program's values. -/
import Derived.Test.YtdegakknelbjiaaGreatDoorSk
import Derived.Test.YtdegakknelbjiaaGreatDoorChecked
namespace Go.RS
open Go.SX Go.Proofs
set_option maxRecDepth 100000
set_option linter.unusedVariables false

abbrev cBlock : CT := .pair (.pair (.int .u32) (.int .i64)) (.int .i64)
abbrev cBlocks : CT := .pair cBlock (.pair cBlock (.pair cBlock (.pair cBlock (.pair cBlock (.pair cBlock (.pair cBlock cBlock))))))
/-- The special prefixes. -/
def blocksV : cBlocks.D := (((0, 8), 1), ((2130706432, 8), 2), ((167772160, 8), 3), ((2886729728, 12), 3), ((3232235520, 16), 3), ((2851995648, 16), 4), ((3758096384, 4), 5), ((4026531840, 4), 6))
/-- The package-level variables of this program that are read. -/
def GL : Globs := (fun n => match n with | 0 => some ⟨cBlocks, blocksV⟩ | _ => none)

theorem hmix : Tryz.prog.follows .mixedOrders = true := Tryz.checked.mixed

abbrev cI : CT := .int .i64
abbrev cU8 : CT := .int .u8
abbrev cU32 : CT := .int .u32
abbrev cU64 : CT := .int .u64
abbrev cCodes : CT := .pair (.sl cU8) cI
abbrev cBucket : CT := .pair cI cI
abbrev cTokens : CT := .pair cI cI
abbrev cKey : CT := .pair cU32 (.pair cU32 (.pair cI (.pair cI cI)))

/-- The numbers of choices: the place lies within. -/
def okC (c : List Int × Int) : Prop := 0 ≤ c.2 ∧ c.2 ≤ c.1.length
end Go.RS

