/- Texts of one's own, laid together: Kn2 -/
import Derived.Test.YtdhbclplondmjaaQc18
section
/- .. further ones. -/
set_option maxRecDepth 1000000
set_option maxHeartbeats 0
namespace Go.Proofs.Ytdhbclplondmjaa.C
theorem run_cycle : chkCycle (runF 300 16 [smallV 4] (smallH rowB)) = true := by decide +kernel
end Go.Proofs.Ytdhbclplondmjaa.C

end
