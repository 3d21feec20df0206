/- Ideal runs. -/
import Derived.Test.YtmbgfbomgbdjeaaGreatDoorPop
import Derived.Test.YtmbgfbomgbdjeaaGreatDoorNod
namespace Go.Proofs.YtmbgfbomgbdjeaaGreatDoor
set_option linter.unusedVariables false
set_option linter.unusedSimpArgs false
set_option maxRecDepth 10000
end Go.Proofs.YtmbgfbomgbdjeaaGreatDoor
