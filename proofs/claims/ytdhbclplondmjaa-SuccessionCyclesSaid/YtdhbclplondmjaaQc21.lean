/- Texts of one's own, laid together: Kn4 -/
import Derived.Test.YtdhbclplondmjaaQc18
section
/- .. further ones. -/
set_option maxRecDepth 1000000
set_option maxHeartbeats 0
namespace Go.Proofs.Ytdhbclplondmjaa.C
theorem run_ranks : chkRanks (runG 301 12 [smallV 3] (smallH rowA)) = true := by decide +kernel
end Go.Proofs.Ytdhbclplondmjaa.C

end
