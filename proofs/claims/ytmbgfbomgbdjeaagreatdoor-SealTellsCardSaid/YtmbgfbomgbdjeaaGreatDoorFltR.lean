/- Ideal runs. -/
import Derived.Test.YtmbgfbomgbdjeaaGreatDoorStep
import Derived.Test.YtmbgfbomgbdjeaaGreatDoorNod
namespace Go.Proofs.YtmbgfbomgbdjeaaGreatDoor
attribute [local go_sem] ZK ZF ZE ZG Zs Zi Zp Zl Zn Ze Zf Zm Zt Zu ZH Zr Zj ZD Zz Zy ZW ZA Yo put lk Od.v Za Zg Zo aj Yd Ye Yc au eqk DV.isU DV.cells ae ZP Ya ZO Zq splice ZQ af ZX eqs bh bV bQ aV bS bg aU aZ bR aW bU aY bf aX bW bY bP YA YB
attribute [local go_sem ↓] Zk
set_option linter.unusedVariables false
set_option linter.unusedSimpArgs false
set_option maxRecDepth 10000
def cF (H : Zb) (ds : List DV) (rs : List (List V)) : Prop := ds.length = rs.length ∧ ∀ (i : Nat) (d : DV) (vs : List V), ds[i]? = some d → rs[i]? = some vs → (∀ L, vw (H ++ L) 4 d = some (vs.map V.d)) ∧ d.one = true
theorem jH {h : Zb} {sz : Nat} {d : DV} {xs : List DV} (hv : vw h sz d = some xs) : d = .nils ∨ (∃ s l c, d = .list s l c) ∨ ∃ o g lo n c, d = .row o g lo n c := by
 cases d <;> simp [vw] at hv ⊢
theorem cF.ext {H : Zb} {ds : List DV} {rs : List (List V)} (h : cF H ds rs) (G : Zb) : cF (H ++ G) ds rs := ⟨h.1, fun i d vs h1 h2 => ⟨fun L => by rw [List.append_assoc]; exact (h.2 i d vs h1 h2).1 _, (h.2 i d vs h1 h2).2⟩⟩
end Go.Proofs.YtmbgfbomgbdjeaaGreatDoor
