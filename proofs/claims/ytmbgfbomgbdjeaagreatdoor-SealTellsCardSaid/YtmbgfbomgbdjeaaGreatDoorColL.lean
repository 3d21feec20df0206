/- Ideal runs. -/
import Derived.Test.YtmbgfbomgbdjeaaGreatDoorStep
import Derived.Test.YtmbgfbomgbdjeaaGreatDoorColH
import Derived.Test.YtmbgfbomgbdjeaaGreatDoorNod
import Derived.Test.YtmbgfbomgbdjeaaGreatDoorPopR
namespace Go.Proofs.YtmbgfbomgbdjeaaGreatDoor
attribute [local go_sem] ZK ZF ZE ZG Zs Zi Zp Zl Zn Ze Zf Zm Zt Zu ZH Zr Zj ZD Zz Zy ZW ZA Yo put lk Od.v Za Zg Zo aj Yd Ye Yc au eqk DV.isU DV.cells ae ZP Ya ZO Zq splice ZQ af ZX eqs bh bV bQ aV bS bg aU aZ bR aW bU aY bf aX bW bY bP YA YB
attribute [local go_sem ↓] Zk
set_option linter.unusedVariables false
set_option linter.unusedSimpArgs false
set_option maxRecDepth 10000
theorem bK.one {R : DV} {bs : List Nat} (h : bK R bs) : R.one = true := by
 rcases h with ⟨rfl, _⟩ | rfl <;> rfl
theorem Qw {H : Zb} {L : DV} {il : List Nat} {w i p : Nat} (hB : bK L (pack il w)) (hw : w ≤ 62) (hb : il.length ≤ 4096) (hp : il[i]? = some p) (BF : wN p ≤ w) :
 E X 70 [L, .int .i64 i, .int .i64 w] H = some (.int .i64 p, H) := by
 obtain ⟨hi, hpi⟩ := List.getElem?_eq_some_iff.1 hp
 have hpl := gM il w
 have hle : i * w + w ≤ il.length * w := by rw [← Nat.succ_mul]; exact Nat.mul_le_mul_right w hi
 have jo : il.length * w ≤ 4096 * 62 := Nat.mul_le_mul hb hw
 have sM := Ec (H := H) (i := i) hB (pJ il w) hw (by omega) (by omega)
 rw [rM il w i hi (by rw [hpi]; exact BF), hpi] at sM
 have jc := yI w hw
 have hv := hB.vw
 have R3 : ((pack il w).map bD).length = (pack il w).length := by simp
 have hP : (i + 1) * w = i * w + w := Nat.succ_mul i w
 obtain ⟨I, hI⟩ : ∃ I, I = i + 1 := ⟨_, rfl⟩
 rw [← hI] at hP
 obtain ⟨P, Vu⟩ : ∃ P, P = I * w := ⟨_, rfl⟩
 have z1 : IntKind.i64.wrap ((i : Int) + 1) = (I : Int) := wr
 have z2 : IntKind.i64.wrap ((I : Int) * (w : Int)) = (P : Int) := by
  rw [show (I : Int) * (w : Int) = ((I * w : Nat) : Int) by simp, ← Vu, wrap64 _ (by omega) (by omega)]
 obtain ⟨bl, hbb⟩ : ∃ bl, bl = (pack il w).length := ⟨_, rfl⟩
 rw [← hbb] at hpl
 obtain ⟨Q, hQ⟩ : ∃ Q, Q = 8 * bl := ⟨_, rfl⟩
 have z3 : IntKind.i64.wrap (8 * (bl : Int)) = (Q : Int) := wr
 have d0 : ¬ (i : Int) < 0 := by omega
 have d1 : ¬ (1099511627776 : Int) < (i : Int) := by omega
 have d2 : ¬ (Q : Int) < (P : Int) := by omega
 have d3 : ¬ Q < P := by omega
 have d4 : ¬ 1099511627776 < i := by omega
 have wT := hbb.symm
 clear hB
 generalize pack il w = bs at *
 clear hle jo hpl hpi hp hP
 rw [Zv (X := X) _ PP _ rfl rfl]; unfold PP; exact rg (dR @sM @jc @hv @wT @z1 @z2 @z3 @d0 @d1 @d2 @d3 @d4)
theorem QH {n : Nat} {D B : DV} {ys : List V} {il : List Nat} (hC : ColOk n D B ys il) {i p : Nat} {v : V} (hp : il[i]? = some p) (hv : ys[p]? = some v) (H : Zb) :
 E X 44 [e7 n D B, .int .i64 i] H = some (.tup [v.d, .bool true], H) := by
 have kC := fun g => JA hC g
 have ql := yJ ys.length hC.yb
 have hpl : p < ys.length := (List.getElem?_eq_some_iff.1 hv).1
 have tV : wC ys.length ≤ 62 := by
  have h1 := gZ (ys.length - 1) 255 (by have := hC.yb; omega)
  have h2 : wN 255 = 8 := by decide
  unfold wC; omega
 have Kl := fun g => Qw (H := g) hC.bytes tV (by have := hC.len; have := hC.nb; omega) hp (gZ _ _ (by omega))
 have hi : i < n := by rw [← hC.len]; exact (List.getElem?_eq_some_iff.1 hp).1
 have hD := hC.dict.vw
 have d0 : ¬ (i : Int) < 0 := by omega
 have d1 : ¬ (n : Int) ≤ (i : Int) := by omega
 have d2 : ¬ n ≤ i := by omega
 obtain ⟨xs, hxs⟩ : ∃ xs, xs = ys.map V.d := ⟨_, rfl⟩
 rw [← hxs] at hD
 have tP : xs.length = ys.length := by rw [hxs]; simp
 have NT : xs[p]? = some v.d := by rw [hxs, List.getElem?_map, hv]; rfl
 have UZ : p < xs.length := by omega
 have TE : xs[p] = v.d := by rw [List.getElem?_eq_getElem UZ] at NT; injection NT
 generalize wC ys.length = w at *
 clear hxs
 clear hC hp hv
 obtain ⟨vk, vn, vs', vt⟩ := v
 simp only [V.d] at *
 rw [Zv (X := X) _ AF _ rfl rfl]; unfold AF; exact d8 (cP @kC @ql @Kl @hD @d0 @d1 @d2 @NT @TE @tP @hpl)
end Go.Proofs.YtmbgfbomgbdjeaaGreatDoor
