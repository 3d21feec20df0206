/- Ideal runs. -/
import Derived.Test.YteekbciaggmfgaaDoorStep
import Derived.Test.YteekbciaggmfgaaDoorNod
import Derived.Test.YteekbciaggmfgaaDoorPop
namespace Go.Proofs.YteekbciaggmfgaaDoor
attribute [local go_sem] ZF Zy ZA ZB Zp Zf Zm Zi Zk Zc Zd Zj Zq Zr ZC Zo Zg Zz Zu Zt ZR Zv Yj put lk Od.v Za Ze Zl Yv Yb Ya Yd ai Yt DV.isU DV.cells ae ZJ ZX ZK Zn splice ZM af ZT Ys bz bR bL bf bP bu aZ bn bN bg bQ bj bq bh bU bV bK aQ aR
attribute [local go_sem ↓] Zh
set_option linter.unusedVariables false
set_option linter.unusedSimpArgs false
set_option maxRecDepth 10000
def zw (H : Zb) (ds : List DV) (rs : List (List V)) : Prop := ds.length = rs.length ∧ ∀ (i : Nat) (d : DV) (vs : List V), ds[i]? = some d → rs[i]? = some vs → (∀ L, vw (H ++ L) 4 d = some (vs.map V.d)) ∧ d.one = true
theorem Cq {h : Zb} {sz : Nat} {d : DV} {xs : List DV} (hv : vw h sz d = some xs) : d = .nils ∨ (∃ s l c, d = .list s l c) ∨ ∃ o g lo n c, d = .row o g lo n c := by
 cases d <;> simp [vw] at hv ⊢
theorem zw.ext {H : Zb} {ds : List DV} {rs : List (List V)} (h : zw H ds rs) (G : Zb) : zw (H ++ G) ds rs := ⟨h.1, fun i d vs h1 h2 => ⟨fun L => by rw [List.append_assoc]; exact (h.2 i d vs h1 h2).1 _, (h.2 i d vs h1 h2).2⟩⟩
end Go.Proofs.YteekbciaggmfgaaDoor
namespace Go.Proofs.YteekbciaggmfgaaDoor
set_option linter.unusedVariables false
set_option linter.unusedSimpArgs false
set_option maxRecDepth 10000
theorem pZ {n : Nat} (h : n < 18446744073709551616) : IntKind.u64.wrap (n : Int) = (n : Int) := by
 rw [fB, Nat.mod_eq_of_lt h]
end Go.Proofs.YteekbciaggmfgaaDoor
