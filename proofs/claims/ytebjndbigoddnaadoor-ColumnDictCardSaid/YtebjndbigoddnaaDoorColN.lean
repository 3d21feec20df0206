/- Ideal runs: bits.At, column.At. -/
import Derived.Test.YtebjndbigoddnaaDoorColH
namespace Go.Proofs.YtebjndbigoddnaaDoor
attribute [local go_sem] ZN ZE ZG ZH Zy Zj Zw Zm Zo Zb Zc Zn Zz ZA ZI Zx Zk ZF Zq Zp ZZ ZD Yk put lk Od.v Za Zf Zu Yn Yc Yd Ye Yo Yl DV.isU DV.cells hget ZO Yb ZP Zv splice ZQ mat Ya Ym one_bool one_int one_str one_nilp one_ref one_elem one_nils one_list one_row one_nilm one_map one_nilf one_func one_nili one_ifc one_agg one_tup one_undef one_fresh
attribute [local go_sem ↓] Zl
set_option linter.unusedVariables false
set_option linter.unusedSimpArgs false
set_option maxRecDepth 10000
/-- What Build tells may be. -/
theorem colOk {n : Nat} {S : DV} {ls ys : List V} (hn : ls.length = n) (hb : n ≤ 200) (hS : ValL S ys) (hU : Up ys) (hm : ∀ x, x ∈ ys ↔ x ∈ ls) (hyl : ys.length ≤ n) (hmay : ∀ x ∈ ls, mayV x = true) :
    ColOk n S (.list 1 ((pack (ls.map (place ys)) (wC ys.length)).map bD) false) ys (ls.map (place ys)) where
  dict := hS
  up := hU
  may := fun x hx => hmay x ((hm x).1 hx)
  yb := by omega
  bytes := .inr rfl
  len := by simpa using hn
  nb := by omega
  mem := by
    intro p
    constructor
    · intro h
      obtain ⟨x, hx, rfl⟩ := List.mem_map.1 h
      exact (List.getElem?_eq_some_iff.1 (up_at_place hU ((hm x).2 hx)).1).1
    · intro h
      exact List.mem_map.2 ⟨ys[p], (hm _).1 (List.getElem_mem h), up_place hU (List.getElem?_eq_getElem h)⟩
end Go.Proofs.YtebjndbigoddnaaDoor
