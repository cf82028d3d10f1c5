/- The walk of gimletref01.value. -/
import Derived.Test.YtbbfifaojepjiaaDoorFrontWalk
namespace Gim
open Go
/-- the value of a character's first k bytes, of n -/
def valS (xs : List Int) (n : Nat) : Nat → Int
  | 0 => (bn xs 0 : Int)
  | 1 => (bn xs 0 : Int) - (if n = 2 then 192 else if n = 3 then 224 else 240)
  | k + 1 => 64 * valS xs n k + (bn xs k : Int) - 128
/-- what value answers -/
def valB (xs : List Int) : Int := if xs.length = 1 then (bn xs 0 : Int) else valS xs xs.length xs.length
end Gim
namespace Go.Proofs.YtbbfifaojepjiaaDoor
open Go.RowKit Gim
end Go.Proofs.YtbbfifaojepjiaaDoor
