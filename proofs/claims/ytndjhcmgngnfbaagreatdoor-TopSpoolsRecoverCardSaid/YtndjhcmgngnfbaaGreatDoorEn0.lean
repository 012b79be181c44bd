/- PRINTED BY PROGRAM: the encoder at these records, carried out by the kernel. No condition. -/
import Derived.Test.YtndjhcmgngnfbaaGreatDoorEnA
set_option linter.unusedSimpArgs false
set_option linter.unusedVariables false
set_option linter.all false
namespace Go.Proofs.YtndjhcmgngnfbaaGreatDoor
open Go Go.Proofs.YtndjhcmgngnfbaaGreatDoor.AM
set_option maxRecDepth 100000
set_option maxHeartbeats 0
theorem encTab0_ok : encTab0.all encChk = true := by kernel_rfl
end Go.Proofs.YtndjhcmgngnfbaaGreatDoor
