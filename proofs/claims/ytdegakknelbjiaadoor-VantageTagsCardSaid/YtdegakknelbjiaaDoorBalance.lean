/- Balance: mixing, hashing, choosing; the law's draws. -/
import Derived.Test.YtdegakknelbjiaaDoorDraw
import Derived.Test.YtdegakknelbjiaaDoorMix
namespace Go.RS
open Go.SX Go.Proofs
set_option maxRecDepth 100000
set_option linter.unusedVariables false



def modI (x n : Int) : Int := (IntKind.wrap .i64 (x.tmod n + n)).tmod n

theorem modI_range (x : Int) {n : Int} (h0 : 0 < n) (h1 : n ≤ 4611686018427387904) : 0 ≤ modI x n ∧ modI x n < n := by
  have a := Int.tmod_lt_of_pos x h0
  have b : -n < x.tmod n := Int.lt_tmod_of_pos x h0
  unfold modI
  rw [w64 (by omega) (by omega)]
  exact ⟨tmod_lo (by omega), tmod_hi (by omega) h0⟩



abbrev Key : Type := Int × Int × Int × Int × Int
def hstep (h x : Int) : Int := mix (bits .xor .u64 h (IntKind.wrap .u64 x))
def hash (seed : Int) (k : Key) : Int := hstep (hstep (hstep (hstep (hstep (mix (IntKind.wrap .u64 seed)) k.1) k.2.1) k.2.2.1) k.2.2.2.1) k.2.2.2.2
theorem hash_range (s : Int) (k : Key) : 0 ≤ hash s k ∧ hash s k ≤ 18446744073709551615 := mix_lt _
def hashAt (seed : Int) (k : Key) (j : Int) : Int := ([k.1, k.2.1, k.2.2.1, k.2.2.2.1, k.2.2.2.2].take j.toNat).foldl hstep (mix (IntKind.wrap .u64 seed))
def choose (way seed : Int) (k : Key) (count n : Int) : Int × Int :=
  if n < 1 ∨ 16 < n ∨ count < 0 ∨ way < 1 ∨ 3 < way then (0, 1) else
    (if way = 1 then (hash seed k).tmod n else if way = 2 then (hash seed (k.1, k.2.1, 0, 0, 0)).tmod n else count.tmod n, 0)

end Go.RS

