/- Ideal runs. -/
import Derived.Test.YtmbgfbomgbdjeaaGreatDoorStep
import Derived.Test.YtmbgfbomgbdjeaaGreatDoorNod
namespace Go.Proofs.YtmbgfbomgbdjeaaGreatDoor
attribute [local go_sem] ZN ZG ZF ZH Zt Zh Zp Zk Zm Ze Zf Zl Zu Zv ZI Zs Zi ZE Zy Zx ZX ZA Yp put lk Od.v Za Zg Zo ax Yg Yh Yd ay eqk DV.isU DV.cells ae ZO Yb ZP Zr splice ZR af ZY eqs bJ cr bY bz cg bH bw bF bZ bA cm bE bG bC cu cw bW Yx Yy
attribute [local go_sem ↓] Zj
set_option linter.unusedVariables false
set_option linter.unusedSimpArgs false
set_option maxRecDepth 10000
def bg (H : Zb) (ds : List DV) (rs : List (List V)) : Prop := ds.length = rs.length ∧ ∀ (i : Nat) (d : DV) (vs : List V), ds[i]? = some d → rs[i]? = some vs → (∀ L, vw (H ++ L) 4 d = some (vs.map V.d)) ∧ d.one = true
theorem jw {h : Zb} {sz : Nat} {d : DV} {xs : List DV} (hv : vw h sz d = some xs) : d = .nils ∨ (∃ s l c, d = .list s l c) ∨ ∃ o g lo n c, d = .row o g lo n c := by
 cases d <;> simp [vw] at hv ⊢
theorem bg.ext {H : Zb} {ds : List DV} {rs : List (List V)} (h : bg H ds rs) (G : Zb) : bg (H ++ G) ds rs := ⟨h.1, fun i d vs h1 h2 => ⟨fun L => by rw [List.append_assoc]; exact (h.2 i d vs h1 h2).1 _, (h.2 i d vs h1 h2).2⟩⟩
end Go.Proofs.YtmbgfbomgbdjeaaGreatDoor
