/- Ideal runs: a node's rows in a sealed segment. Ideal runs: filter.Sealed; light segments. Ideal runs: the document's rows of a segment (winnowerref12.Row, Rows), its filters (winnowerref17.Sealed); light segments. Ideal runs: filters of segments as the document says (winnowerref17.Sealed); light segments; FilterSeals. Ideal runs: light segments; FilterSeals. -/
import Derived.Test.YtmbgfbomgbdjeaaGreatDoorStep
import Derived.Test.YtmbgfbomgbdjeaaGreatDoorColT
import Derived.Test.YtmbgfbomgbdjeaaGreatDoorNod
import Derived.Test.YtmbgfbomgbdjeaaGreatDoorPlainQ
import Derived.Test.YtmbgfbomgbdjeaaGreatDoorPlainB
namespace Go.Proofs.YtmbgfbomgbdjeaaGreatDoor
attribute [local go_sem] ZL ZD ZC ZE Zs Zh Zq Zk Zm Zc Ze Zl Zt Zu ZF Zr Zi ZB Zx Zw ZV Zz Yn put lk Od.v Za Zg Zn rdc Yd Ye Yc unx eqk DV.isU DV.cells hget ZP Yb ZO Zp splice ZQ mat ZW eqs one_bool one_int one_str one_nilp one_ref one_elem one_nils one_list one_row one_nilm one_map one_nilf one_func one_nili one_ifc one_agg one_tup Yv Yw
attribute [local go_sem ↓] Zj
set_option linter.unusedVariables false
set_option linter.unusedSimpArgs false
set_option maxRecDepth 10000
/-- A column as an argument. -/
structure RC where
  n : Int
  ys : List V
  bs : List Nat
  D : DV
  B : DV
def RC.d (c : RC) : DV := colD c.n c.D c.B
structure RC.Ok (c : RC) : Prop where
  dict : ValL c.D c.ys
  yl : c.ys.length ≤ 200
  sm : ∀ x ∈ c.ys, Sm x
  bytes : BytesL c.B c.bs
  bb : BB c.bs
  bl : c.bs.length ≤ 200
/-- A column that may be, of so many rows. -/
structure RC.May (n : Nat) (c : RC) : Prop where
  ok : c.Ok
  may : okC c.n c.ys c.bs
  len : c.n = (n : Int)
def RC.sc (c : RC) : SC := ⟨c.ys, idsN c.bs (wC c.ys.length) c.n.toNat⟩
theorem RC.May.col {n : Nat} {c : RC} (h : c.May n) : ColOk n c.D c.B c.ys c.sc.il := by
  have := (h.may.col h.ok.dict (by have := h.ok.yl; omega) h.ok.bytes h.ok.bb).2
  rw [h.len, Int.toNat_natCast] at this
  unfold RC.sc
  rw [h.len, Int.toNat_natCast]
  exact this
theorem RC.May.vals {n : Nat} {c : RC} (h : c.May n) : vlC c.n c.ys c.bs = valsS c.sc n := by
  have hv : vlC c.n c.ys c.bs = valI c.ys (idsN c.bs (wC c.ys.length) c.n.toNat) := by unfold vlC; rw [if_pos h.may]
  rw [hv]
  have hl := h.col.len
  unfold valsS valI
  have e : c.sc.il = idsN c.bs (wC c.ys.length) c.n.toNat := rfl
  rw [← e]
  apply List.ext_getElem
  · simp [hl]
  · intro i h1 h2
    simp only [List.getElem_map, List.getElem_range, SC.val]
    have hi : i < c.sc.il.length := by simpa using h1
    have : c.sc.il.getD i 0 = c.sc.il[i] := by rw [List.getD_eq_getElem?_getD, List.getElem?_eq_getElem hi]; rfl
    rw [this]
    rfl
theorem BytesL.one' {R : DV} {bs : List Nat} (h : BytesL R bs) : R.one = true := by
  rcases h with ⟨rfl, _⟩ | rfl <;> rfl
/-- Rows that are told, each on its own. -/
def RowsE (es : List DV) (rs : List (List V)) : Prop := RowsL es rs ∧ ∀ x ∈ es, Nr x
theorem RowsE.snoc {es : List DV} {rs : List (List V)} (h : RowsE es rs) {e : DV} {r : List V} (he : RowL e r) : RowsE (es ++ [e]) (rs ++ [r]) := by
  refine ⟨⟨by simp [h.1.1], fun i d vs h1 h2 => ?_⟩, fun x hx => ?_⟩
  · by_cases c : i < es.length
    · rw [List.getElem?_append_left c] at h1
      rw [List.getElem?_append_left (by rw [← h.1.1]; exact c)] at h2
      exact h.1.2 i d vs h1 h2
    · have hl := h.1.1
      have hi : i = es.length := by
        have := (List.getElem?_eq_some_iff.1 h1).1
        rw [List.length_append, List.length_cons, List.length_nil] at this; omega
      subst hi
      rw [List.getElem?_append_right (Nat.le_refl _), Nat.sub_self] at h1
      rw [hl, List.getElem?_append_right (Nat.le_refl _), Nat.sub_self] at h2
      injection h1 with h1
      injection h2 with h2
      rw [← h1, ← h2]; exact he
  · rcases List.mem_append.1 hx with hx | hx
    · exact h.2 x hx
    · rw [List.mem_singleton] at hx
      rw [hx]; exact he.nr
/-- A column as an argument, of any size. -/
structure RC.Raw (c : RC) : Prop where
  dict : ValL c.D c.ys
  sm : ∀ x ∈ c.ys, Sm x
  bytes : BytesL c.B c.bs
  bb : BB c.bs
/-- A segment as an argument. -/
structure SegA (Of Cs : DV) (os : List DV) (cs : List RC) : Prop where
  o : ∀ g, vw g 1 Of = some os
  c : ∀ g, vw g 3 Cs = some (cs.map RC.d)
  raw : ∀ c ∈ cs, c.Raw
end Go.Proofs.YtmbgfbomgbdjeaaGreatDoor
