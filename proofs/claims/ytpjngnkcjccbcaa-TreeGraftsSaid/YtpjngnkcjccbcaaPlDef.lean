/- What the program asks of a box, rule by rule. -/
import Derived.Test.YtpjngnkcjccbcaaRl2
namespace Go.Proofs.Ytpjngnkcjccbcaa
set_option linter.unusedSimpArgs false
set_option linter.unusedVariables false
def tBig (b : Bx) : Bool := decide (0 ≤ idxB (nums b) 0)
def pchk (b : Bx) : Int :=
  if outB b.k 1 5 = true then 4 else if tBig b = true then 10 else if tSide b = true then 5 else if tClear b = true then 6 else if tSize b = true then 7 else
  if tMargin b = true then 8 else if tEdge b = true then 9 else if outB b.d 0 256 = true then 11 else 0
end Go.Proofs.Ytpjngnkcjccbcaa
