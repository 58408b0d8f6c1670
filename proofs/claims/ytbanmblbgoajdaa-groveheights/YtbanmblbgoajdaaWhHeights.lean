/- GroveHeights: for every input the law returns true, and its arguments read behind the call as before. No further conditions. -/
import Derived.Test.YtbanmblbgoajdaaWhRow2
namespace Go.Proofs.Ytbanmblbgoajdaa
theorem groveHeights_holds : Rows.GroveHeightsSaid := GroveHeightsRow.proved
end Go.Proofs.Ytbanmblbgoajdaa
