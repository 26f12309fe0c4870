/- walks of package num: size, Put -/
import Derived.Test.YtmhckkcppmfjpaaDoorRows
import Derived.Test.YtmhckkcppmfjpaaDoorLib
namespace Go.Proofs.YtmhckkcppmfjpaaDoor
open Go.RowKit

def szB (n : Int) : Nat := (max 0 (min n 8)).toNat
theorem szB_le (n : Int) : szB n ≤ 8 := by unfold szB; omega
/-- The first k of the N bytes of v, the greatest first. -/
def beL (v : Int) (N k : Nat) : List Int := (List.range k).map fun i => v / 2 ^ (8 * (N - 1 - i)) % 256
theorem beL_succ (v : Int) (N k : Nat) : beL v N (k + 1) = beL v N k ++ [v / 2 ^ (8 * (N - 1 - k)) % 256] := by simp [beL, List.range_succ]

end Go.Proofs.YtmhckkcppmfjpaaDoor
