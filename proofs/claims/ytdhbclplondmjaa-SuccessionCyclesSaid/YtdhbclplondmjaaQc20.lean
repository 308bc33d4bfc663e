/- Texts of one's own, laid together: Kn3 -/
import Derived.Test.YtdhbclplondmjaaQc18
section
/- .. further ones. -/
set_option maxRecDepth 1000000
set_option maxHeartbeats 0
namespace Go.Proofs.Ytdhbclplondmjaa.C
theorem run_exts : chkExts (runF 300 28 [smallV 3, .int .i64 10] (smallH rowA)) = true := by decide +kernel
end Go.Proofs.Ytdhbclplondmjaa.C

end
