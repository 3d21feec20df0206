/- Ideal runs: the chapter's example; ColumnBuilds. ColumnBuilds, in plain Lean: the ideal run of the law. Ideal runs: bits.At, column.At. ColumnDict, in plain Lean: the ideal run of the law. ColumnParts, in plain Lean: the ideal run of the law. -/
import Derived.Test.YtmbgfbomgbdjeaaGreatDoorStep
import Derived.Test.YtmbgfbomgbdjeaaGreatDoorColH
import Derived.Test.YtmbgfbomgbdjeaaGreatDoorNod
import Derived.Test.YtmbgfbomgbdjeaaGreatDoorPopR
namespace Go.Proofs.YtmbgfbomgbdjeaaGreatDoor
attribute [local go_sem] ZJ ZE ZD ZF Zt Zh Zr Zk Zm Ze Zf Zl Zu Zv ZG Zs Zi ZC Zx Zw ZV ZA Yo put lk Od.v Za Zg Zo rdc Yd Ye Yc unx eqk DV.isU DV.cells hget ZP Yb ZO Zq splice ZQ mat ZW eqs one_bool one_int one_str one_nilp one_ref one_elem one_nils one_list one_row one_nilm one_map one_nilf one_func one_nili one_ifc one_agg one_tup Yx Yy
attribute [local go_sem ↓] Zj
set_option linter.unusedVariables false
set_option linter.unusedSimpArgs false
set_option maxRecDepth 10000
theorem BytesL.one {R : DV} {bs : List Nat} (h : BytesL R bs) : R.one = true := by
  rcases h with ⟨rfl, _⟩ | rfl <;> rfl
theorem run70 {H : Zb} {L : DV} {il : List Nat} {w i p : Nat} (hB : BytesL L (pack il w)) (hw : w ≤ 62) (hb : il.length ≤ 4096) (hp : il[i]? = some p) (hpw : wN p ≤ w) :
    E X 70 [L, .int .i64 i, .int .i64 w] H = some (.int .i64 p, H) := by
  obtain ⟨hi, hpi⟩ := List.getElem?_eq_some_iff.1 hp
  have hpl := pack_len il w
  have hle : i * w + w ≤ il.length * w := by rw [← Nat.succ_mul]; exact Nat.mul_le_mul_right w hi
  have hmx : il.length * w ≤ 4096 * 62 := Nat.mul_le_mul hb hw
  have e109 := run105 (H := H) (i := i) hB (pack_BB il w) hw (by omega) (by omega)
  rw [numB_pack il w i hi (by rw [hpi]; exact hpw), hpi] at e109
  have e100 := run90 w hw
  have hv := hB.vw
  have hbl : ((pack il w).map bD).length = (pack il w).length := by simp
  have hP : (i + 1) * w = i * w + w := Nat.succ_mul i w
  obtain ⟨I, hI⟩ : ∃ I, I = i + 1 := ⟨_, rfl⟩
  rw [← hI] at hP
  obtain ⟨P, hPP⟩ : ∃ P, P = I * w := ⟨_, rfl⟩
  have z1 : IntKind.i64.wrap ((i : Int) + 1) = (I : Int) := (by rw [wrap64 _ (by omega) (by omega)]; omega)
  have z2 : IntKind.i64.wrap ((I : Int) * (w : Int)) = (P : Int) := by
    rw [show (I : Int) * (w : Int) = ((I * w : Nat) : Int) by simp, ← hPP, wrap64 _ (by omega) (by omega)]
  obtain ⟨bl, hbb⟩ : ∃ bl, bl = (pack il w).length := ⟨_, rfl⟩
  rw [← hbb] at hpl
  obtain ⟨Q, hQ⟩ : ∃ Q, Q = 8 * bl := ⟨_, rfl⟩
  have z3 : IntKind.i64.wrap (8 * (bl : Int)) = (Q : Int) := (by rw [wrap64 _ (by omega) (by omega)]; omega)
  have d0 : ¬ (i : Int) < 0 := by omega
  have d1 : ¬ (1099511627776 : Int) < (i : Int) := by omega
  have d2 : ¬ (Q : Int) < (P : Int) := by omega
  have d3 : ¬ Q < P := by omega
  have d4 : ¬ 1099511627776 < i := by omega
  have hbb' := hbb.symm
  clear hB
  generalize pack il w = bs at *
  clear hle hmx hpl hpi hp hP
  rw [ZB (X := X) _ b70 _ rfl rfl]; unfold b70; exact rg (fA12 @e109 @e100 @hv @hbb' @z1 @z2 @z3 @d0 @d1 @d2 @d3 @d4)
theorem run44 {n : Nat} {D B : DV} {ys : List V} {il : List Nat} (hC : ColOk n D B ys il) {i p : Nat} {v : V} (hp : il[i]? = some p) (hv : ys[p]? = some v) (H : Zb) :
    E X 44 [colD n D B, .int .i64 i] H = some (.tup [v.d, .bool true], H) := by
  have e39 := fun g => run69 hC g
  have e62 := run61 ys.length hC.yb
  have hpl : p < ys.length := (List.getElem?_eq_some_iff.1 hv).1
  have hwl : wC ys.length ≤ 62 := by
    have h1 := wN_mono (ys.length - 1) 255 (by have := hC.yb; omega)
    have h2 : wN 255 = 8 := by decide
    unfold wC; omega
  have e71 := fun g => run70 (H := g) hC.bytes hwl (by have := hC.len; have := hC.nb; omega) hp (wN_mono _ _ (by omega))
  have hi : i < n := by rw [← hC.len]; exact (List.getElem?_eq_some_iff.1 hp).1
  have hD := hC.dict.vw
  have d0 : ¬ (i : Int) < 0 := by omega
  have d1 : ¬ (n : Int) ≤ (i : Int) := by omega
  have d2 : ¬ n ≤ i := by omega
  obtain ⟨xs, hxs⟩ : ∃ xs, xs = ys.map V.d := ⟨_, rfl⟩
  rw [← hxs] at hD
  have hyl : xs.length = ys.length := by rw [hxs]; simp
  have hpD : xs[p]? = some v.d := by rw [hxs, List.getElem?_map, hv]; rfl
  have hpx : p < xs.length := by omega
  have hpD' : xs[p] = v.d := by rw [List.getElem?_eq_getElem hpx] at hpD; injection hpD
  generalize wC ys.length = w at *
  clear hxs
  clear hC hp hv
  obtain ⟨vk, vn, vs', vt⟩ := v
  simp only [V.d] at *
  rw [ZB (X := X) _ b44 _ rfl rfl]; unfold b44; exact rg0 (fA11 @e39 @e62 @e71 @hD @d0 @d1 @d2 @hpD @hpD' @hyl @hpl)
end Go.Proofs.YtmbgfbomgbdjeaaGreatDoor
