/- Ideal runs. -/
import Derived.Test.YtmbgfbomgbdjeaaGreatDoorStep
import Derived.Test.YtmbgfbomgbdjeaaGreatDoorColT
import Derived.Test.YtmbgfbomgbdjeaaGreatDoorNod
import Derived.Test.YtmbgfbomgbdjeaaGreatDoorPlainQ
import Derived.Test.YtmbgfbomgbdjeaaGreatDoorPlainB
namespace Go.Proofs.YtmbgfbomgbdjeaaGreatDoor
attribute [local go_sem] ZN ZG ZF ZH Zt Zh Zp Zk Zm Ze Zf Zl Zu Zv ZI Zs Zi ZE Zy Zx ZX ZA Yp put lk Od.v Za Zg Zo ax Yg Yh Yd ay eqk DV.isU DV.cells ae ZO Yb ZP Zr splice ZR af ZY eqs bJ cr bY bz cg bH bw bF bZ bA cm bE bG bC cu cw bW Yx Yy
attribute [local go_sem ↓] Zj
set_option linter.unusedVariables false
set_option linter.unusedSimpArgs false
set_option maxRecDepth 10000
structure RC where
 n : Int
 ys : List V
 bs : List Nat
 D : DV
 B : DV
def RC.d (c : RC) : DV := eS c.n c.D c.B
structure RC.Ok (c : RC) : Prop where
 dict : eU c.D c.ys
 yl : c.ys.length ≤ 200
 sm : ∀ x ∈ c.ys, Sm x
 bytes : bV c.B c.bs
 bb : BB c.bs
 bl : c.bs.length ≤ 200
structure RC.May (n : Nat) (c : RC) : Prop where
 ok : c.Ok
 may : okC c.n c.ys c.bs
 len : c.n = (n : Int)
def RC.sc (c : RC) : SC := ⟨c.ys, fP c.bs (wC c.ys.length) c.n.toNat⟩
theorem RC.May.col {n : Nat} {c : RC} (h : c.May n) : ColOk n c.D c.B c.ys c.sc.il := by
 have := (h.may.col h.ok.dict (by have := h.ok.yl; omega) h.ok.bytes h.ok.bb).2
 rw [h.len, Int.toNat_natCast] at this
 unfold RC.sc
 rw [h.len, Int.toNat_natCast]
 exact this
theorem RC.May.vals {n : Nat} {c : RC} (h : c.May n) : jK c.n c.ys c.bs = CN c.sc n := by
 have hv : jK c.n c.ys c.bs = kM c.ys (fP c.bs (wC c.ys.length) c.n.toNat) := by unfold jK; rw [if_pos h.may]
 rw [hv]
 have hl := h.col.len
 unfold CN kM
 have e : c.sc.il = fP c.bs (wC c.ys.length) c.n.toNat := rfl
 rw [← e]
 apply List.ext_getElem
 ·simp [hl]
 ·intro i h1 h2
  simp only [List.getElem_map, List.getElem_range, SC.val]
  have hi : i < c.sc.il.length := by simpa using h1
  have : c.sc.il.getD i 0 = c.sc.il[i] := by rw [List.getD_eq_getElem?_getD, List.getElem?_eq_getElem hi]; rfl
  rw [this]
  rfl
theorem bV.one' {R : DV} {bs : List Nat} (h : bV R bs) : R.one = true := by
 rcases h with ⟨rfl, _⟩ | rfl <;> rfl
def qJ (es : List DV) (rs : List (List V)) : Prop := D5 es rs ∧ ∀ x ∈ es, Nr x
theorem qJ.snoc {es : List DV} {rs : List (List V)} (h : qJ es rs) {e : DV} {r : List V} (he : uV e r) : qJ (es ++ [e]) (rs ++ [r]) := by
 refine ⟨⟨by simp [h.1.1], fun i d vs h1 h2 => ?_⟩, fun x hx => ?_⟩
 ·by_cases c : i < es.length
  ·rw [List.getElem?_append_left c] at h1
   rw [List.getElem?_append_left (by rw [← h.1.1]; exact c)] at h2
   exact h.1.2 i d vs h1 h2
  ·have hl := h.1.1
   have hi : i = es.length := by
    have := (List.getElem?_eq_some_iff.1 h1).1
    rw [List.length_append, List.length_cons, List.length_nil] at this; omega
   subst hi
   rw [List.getElem?_append_right (Nat.le_refl _), Nat.sub_self] at h1
   rw [hl, List.getElem?_append_right (Nat.le_refl _), Nat.sub_self] at h2
   injection h1 with h1
   injection h2 with h2
   rw [← h1, ← h2]; exact he
 ·rcases List.mem_append.1 hx with hx | hx
  ·exact h.2 x hx
  ·rw [List.mem_singleton] at hx
   rw [hx]; exact he.nr
structure RC.Raw (c : RC) : Prop where
 dict : eU c.D c.ys
 sm : ∀ x ∈ c.ys, Sm x
 bytes : bV c.B c.bs
 bb : BB c.bs
structure SegA (Of Cs : DV) (os : List DV) (cs : List RC) : Prop where
 o : ∀ g, vw g 1 Of = some os
 c : ∀ g, vw g 3 Cs = some (cs.map RC.d)
 raw : ∀ c ∈ cs, c.Raw
end Go.Proofs.YtmbgfbomgbdjeaaGreatDoor
