/- PRINTED BY PROGRAM: the fixed examples of sanity34 answer true, in every world that holds the tables. No condition. -/
import Derived.Test.YtndjhcmgngnfbaaGreatDoorAmE14x1022
import Derived.Test.YtndjhcmgngnfbaaGreatDoorAmE36x1448
import Derived.Test.YtndjhcmgngnfbaaGreatDoorAmE40x1522
import Derived.Test.YtndjhcmgngnfbaaGreatDoorAmE46x1800
import Derived.Test.YtndjhcmgngnfbaaGreatDoorAmE45x1716
import Derived.Test.YtndjhcmgngnfbaaGreatDoorAmE47x2335
set_option linter.unusedSimpArgs false
set_option linter.unusedVariables false
set_option linter.all false
namespace Go.Proofs.YtndjhcmgngnfbaaGreatDoor.AM
open Go Go.Proofs Go.RowKit
set_option maxRecDepth 100000
set_option maxHeartbeats 0
def mmSan : List (Nat × Nat × Entry) := [(14, 1022, e14x1022), (36, 1448, e36x1448), (40, 1522, e40x1522), (46, 1800, e46x1800), (45, 1716, e45x1716), (47, 2335, e47x2335)]
theorem sanity34_true {W : World} (hW : TabsMet gs W) : CallsIn Fence.wide 0 Tryz.prog 4 #[] W fun e w' => e = .returned (.bool true) ∧ Below W.heap.size W w' :=
  mclosed_call (E := env) (mm := memoOf mmSan) (G := glob) (n := 2000) envOk (memoOf_ok (.cons e14x1022_sound (.cons e36x1448_sound (.cons e40x1522_sound (.cons e46x1800_sound (.cons e45x1716_sound (.cons e47x2335_sound (.nil)))))))) (gs := gs) (by kernel_rfl) (by kernel_rfl) (by kernel_rfl) (by kernel_rfl) (by kernel_rfl) hW
end Go.Proofs.YtndjhcmgngnfbaaGreatDoor.AM
