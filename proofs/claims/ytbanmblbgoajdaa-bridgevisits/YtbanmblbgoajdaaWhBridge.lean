/- BridgeVisits: for every input the law returns true, and its arguments read behind the call as before. No further conditions. -/
import Derived.Test.YtbanmblbgoajdaaWhJ3
namespace Go.Proofs.Ytbanmblbgoajdaa
theorem bridgeVisits_holds : Rows.BridgeVisitsSaid := BridgeVisitsRow.proved
end Go.Proofs.Ytbanmblbgoajdaa
