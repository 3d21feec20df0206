/- Ideal runs: how many bits of a word are set; how many numbers a set has. -/
import Derived.Test.YtmbgfbomgbdjeaaGreatDoorPop
import Derived.Test.YtmbgfbomgbdjeaaGreatDoorNod
namespace Go.Proofs.YtmbgfbomgbdjeaaGreatDoor
set_option linter.unusedVariables false
set_option linter.unusedSimpArgs false
set_option maxRecDepth 10000
end Go.Proofs.YtmbgfbomgbdjeaaGreatDoor
