/- Ideal runs. -/
import Derived.Test.YtmbgfbomgbdjeaaGreatDoorStep
import Derived.Test.YtmbgfbomgbdjeaaGreatDoorColH
import Derived.Test.YtmbgfbomgbdjeaaGreatDoorNod
import Derived.Test.YtmbgfbomgbdjeaaGreatDoorPopR
namespace Go.Proofs.YtmbgfbomgbdjeaaGreatDoor
attribute [local go_sem] ZN ZG ZF ZH Zt Zh Zp Zk Zm Ze Zf Zl Zu Zv ZI Zs Zi ZE Zy Zx ZX ZA Yp put lk Od.v Za Zg Zo ax Yg Yh Yd ay eqk DV.isU DV.cells ae ZO Yb ZP Zr splice ZR af ZY eqs bJ cr bY bz cg bH bw bF bZ bA cm bE bG bC cu cw bW Yx Yy
attribute [local go_sem ↓] Zj
set_option linter.unusedVariables false
set_option linter.unusedSimpArgs false
set_option maxRecDepth 10000
theorem bV.one {R : DV} {bs : List Nat} (h : bV R bs) : R.one = true := by
 rcases h with ⟨rfl, _⟩ | rfl <;> rfl
end Go.Proofs.YtmbgfbomgbdjeaaGreatDoor
