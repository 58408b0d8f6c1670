/- GroveHeights: for every input the law returns true, and its arguments read behind the call as before. No further conditions. -/
import Derived.Test.YtnbkhpbghodoiaaWhRow2
namespace Go.Proofs.Ytnbkhpbghodoiaa
theorem groveHeights_holds : Rows.GroveHeightsSaid := GroveHeightsRow.proved
end Go.Proofs.Ytnbkhpbghodoiaa
