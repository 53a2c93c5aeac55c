/- The tables of the packages that a walk relies on: block.numbers. -/
import Derived.Test.YthcoccoanpmhgaaDoorBlkPure
namespace Go.Proofs.YthcoccoanpmhgaaDoor
open Go.RowKit
/-- Package variables, by their blocks, and the cells that these hold. -/
def globs : List (Nat × List Value) := [(0, nums.map fun x => .int .u32 (wv x))]
end Go.Proofs.YthcoccoanpmhgaaDoor
