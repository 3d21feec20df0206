/- Ideal runs: filters over rows that stand in the heap (leaf, Holds, Rows). -/
import Derived.Test.YtmbgfbomgbdjeaaGreatDoorStep
import Derived.Test.YtmbgfbomgbdjeaaGreatDoorNod
namespace Go.Proofs.YtmbgfbomgbdjeaaGreatDoor
attribute [local go_sem] ZL ZD ZC ZE Zs Zh Zq Zk Zm Zc Ze Zl Zt Zu ZF Zr Zi ZB Zx Zw ZV Zz Yn put lk Od.v Za Zg Zn rdc Yd Ye Yc unx eqk DV.isU DV.cells hget ZP Yb ZO Zp splice ZQ mat ZW eqs one_bool one_int one_str one_nilp one_ref one_elem one_nils one_list one_row one_nilm one_map one_nilf one_func one_nili one_ifc one_agg one_tup Yv Yw
attribute [local go_sem ↓] Zj
set_option linter.unusedVariables false
set_option linter.unusedSimpArgs false
set_option maxRecDepth 10000
/-- Rows, each of which may be told in the heap. -/
def RowsG (H : Zb) (ds : List DV) (rs : List (List V)) : Prop := ds.length = rs.length ∧ ∀ (i : Nat) (d : DV) (vs : List V), ds[i]? = some d → rs[i]? = some vs → (∀ L, vw (H ++ L) 4 d = some (vs.map V.d)) ∧ d.one = true
theorem vw_shape {h : Zb} {sz : Nat} {d : DV} {xs : List DV} (hv : vw h sz d = some xs) : d = .nils ∨ (∃ s l c, d = .list s l c) ∨ ∃ o g lo n c, d = .row o g lo n c := by
  cases d <;> simp [vw] at hv ⊢
theorem RowsG.ext {H : Zb} {ds : List DV} {rs : List (List V)} (h : RowsG H ds rs) (G : Zb) : RowsG (H ++ G) ds rs := ⟨h.1, fun i d vs h1 h2 => ⟨fun L => by rw [List.append_assoc]; exact (h.2 i d vs h1 h2).1 _, (h.2 i d vs h1 h2).2⟩⟩
end Go.Proofs.YtmbgfbomgbdjeaaGreatDoor
