/- Ideal runs: the chapter's example; ColumnBuilds. ColumnBuilds, in plain Lean: the ideal run of the law. Ideal runs: bits.At, column.At. ColumnDict, in plain Lean: the ideal run of the law. ColumnParts, in plain Lean: the ideal run of the law. -/
import Derived.Test.YtmbgfbomgbdjeaaGreatDoorStep
import Derived.Test.YtmbgfbomgbdjeaaGreatDoorColH
import Derived.Test.YtmbgfbomgbdjeaaGreatDoorNod
import Derived.Test.YtmbgfbomgbdjeaaGreatDoorPopR
namespace Go.Proofs.YtmbgfbomgbdjeaaGreatDoor
attribute [local go_sem] ZL ZD ZC ZE Zs Zh Zq Zk Zm Zc Ze Zl Zt Zu ZF Zr Zi ZB Zx Zw ZV Zz Yn put lk Od.v Za Zg Zn rdc Yd Ye Yc unx eqk DV.isU DV.cells hget ZP Yb ZO Zp splice ZQ mat ZW eqs one_bool one_int one_str one_nilp one_ref one_elem one_nils one_list one_row one_nilm one_map one_nilf one_func one_nili one_ifc one_agg one_tup Yv Yw
attribute [local go_sem ↓] Zj
set_option linter.unusedVariables false
set_option linter.unusedSimpArgs false
set_option maxRecDepth 10000
theorem BytesL.one {R : DV} {bs : List Nat} (h : BytesL R bs) : R.one = true := by
  rcases h with ⟨rfl, _⟩ | rfl <;> rfl
end Go.Proofs.YtmbgfbomgbdjeaaGreatDoor
