/- Ideal runs: bits.At, column.At. -/
import Derived.Test.YtebjndbigoddnaaDoorColH
namespace Go.Proofs.YtebjndbigoddnaaDoor
attribute [local go_sem] ZN ZE ZG ZH Zy Zj Zw Zm Zo Zc Zd Zn Zz ZA ZI Zx Zk ZF Zq Zp ZZ ZD Yk put lk Od.v Za Zi Zu Yn Yc Yd Ye Yo Yl DV.isU DV.cells hget ZO Yb ZP Zv splice ZQ mat Ya Ym one_bool one_int one_str one_nilp one_ref one_elem one_nils one_list one_row one_nilm one_map one_nilf one_func one_nili one_ifc one_agg one_tup one_undef one_fresh
attribute [local go_sem ↓] Zl
set_option linter.unusedVariables false
set_option linter.unusedSimpArgs false
set_option maxRecDepth 10000
theorem run71 {H : ZT} {L : DV} {il : List Nat} {w i p : Nat} (hB : BytesL L (pack il w)) (hw : w ≤ 62) (hb : il.length ≤ 4096) (hp : il[i]? = some p) (hpw : wN p ≤ w) :
    E X 71 [L, .int .i64 i, .int .i64 w] H = some (.int .i64 p, H) := by
  obtain ⟨hi, hpi⟩ := List.getElem?_eq_some_iff.1 hp
  have hpl := pack_len il w
  have hle : i * w + w ≤ il.length * w := by rw [← Nat.succ_mul]; exact Nat.mul_le_mul_right w hi
  have hmx : il.length * w ≤ 4096 * 62 := Nat.mul_le_mul hb hw
  have e109 := run109 (H := H) (i := i) hB (pack_BB il w) hw (by omega) (by omega)
  rw [numB_pack il w i hi (by rw [hpi]; exact hpw), hpi] at e109
  have e100 := run100 w hw
  have hv := hB.vw
  have hbl : ((pack il w).map bD).length = (pack il w).length := by simp
  have hP : (i + 1) * w = i * w + w := Nat.succ_mul i w
  obtain ⟨I, hI⟩ : ∃ I, I = i + 1 := ⟨_, rfl⟩
  rw [← hI] at hP
  obtain ⟨P, hPP⟩ : ∃ P, P = I * w := ⟨_, rfl⟩
  have z1 : IntKind.i64.wrap ((i : Int) + 1) = (I : Int) := (by rw [wrap64 _ (by omega) (by omega)]; omega)
  have z2 : IntKind.i64.wrap ((I : Int) * (w : Int)) = (P : Int) := by
    rw [show (I : Int) * (w : Int) = ((I * w : Nat) : Int) by simp, ← hPP, wrap64 _ (by omega) (by omega)]
  obtain ⟨bl, hbb⟩ : ∃ bl, bl = (pack il w).length := ⟨_, rfl⟩
  rw [← hbb] at hpl
  obtain ⟨Q, hQ⟩ : ∃ Q, Q = 8 * bl := ⟨_, rfl⟩
  have z3 : IntKind.i64.wrap (8 * (bl : Int)) = (Q : Int) := (by rw [wrap64 _ (by omega) (by omega)]; omega)
  have d0 : ¬ (i : Int) < 0 := by omega
  have d1 : ¬ (1099511627776 : Int) < (i : Int) := by omega
  have d2 : ¬ (Q : Int) < (P : Int) := by omega
  have d3 : ¬ Q < P := by omega
  have d4 : ¬ 1099511627776 < i := by omega
  have hbb' := hbb.symm
  clear hB
  generalize pack il w = bs at *
  clear hle hmx hpl hpi hp hP
  rw [Yv (X := X) _ b71 _ rfl rfl]; unfold b71; (repeat (first | rw [ZB] | rw [Ze (by simp [go_sem, e109, e100, hv, hbb', z1, z2, z3, d0, d1, d2, d3, d4]; exact ⟨rfl, rfl⟩)] | rw [ZR (by simp [lk, Za, Od.v, e109, e100, hv, hbb', z1, z2, z3, d0, d1, d2, d3, d4]; exact rfl)] | rw [Zq] | rw [Zp] | rw [ZJ] | rw [ZV] | rw [ZK] | rw [ZU] | rw [ZM] | rw [ZL] | rw [ZC] | rw [Zs] | rw [Zt] | rw [Zh (by decide)] | rw [Zr] | rw [Zf] | rw [Zg] | rw [Zb (by decide)] | rw [ZY] | rw [ZW (by simp [go_sem, e109, e100, hv, hbb', z1, z2, z3, d0, d1, d2, d3, d4]; exact ⟨rfl, rfl⟩)] | rw [ZX (by simp [lk, Za, Od.v, e109, e100, hv, hbb', z1, z2, z3, d0, d1, d2, d3, d4]; exact rfl)] | rw [ZS])); simp [Yf, Yg, Yr, go_sem, fin, fz0, fz1, fzT, fzL, nlt, e109, e100, hv, hbb', z1, z2, z3, d0, d1, d2, d3, d4]
theorem run29 {n : Nat} {D B : DV} {ys : List V} {il : List Nat} (hC : ColOk n D B ys il) {i p : Nat} {v : V} (hp : il[i]? = some p) (hv : ys[p]? = some v) (H : ZT) :
    E X 29 [colD n D B, .int .i64 i] H = some (.tup [v.d, .bool true], H) := by
  have e39 := fun g => run39 hC g
  have e62 := run62 ys.length hC.yb
  have hpl : p < ys.length := (List.getElem?_eq_some_iff.1 hv).1
  have hwl : wC ys.length ≤ 62 := by
    have h1 := wN_mono (ys.length - 1) 255 (by have := hC.yb; omega)
    have h2 : wN 255 = 8 := by decide
    unfold wC; omega
  have e71 := fun g => run71 (H := g) hC.bytes hwl (by have := hC.len; have := hC.nb; omega) hp (wN_mono _ _ (by omega))
  have hi : i < n := by rw [← hC.len]; exact (List.getElem?_eq_some_iff.1 hp).1
  have hD := hC.dict.vw
  have d0 : ¬ (i : Int) < 0 := by omega
  have d1 : ¬ (n : Int) ≤ (i : Int) := by omega
  have d2 : ¬ n ≤ i := by omega
  obtain ⟨xs, hxs⟩ : ∃ xs, xs = ys.map V.d := ⟨_, rfl⟩
  rw [← hxs] at hD
  have hyl : xs.length = ys.length := by rw [hxs]; simp
  have hpD : xs[p]? = some v.d := by rw [hxs, List.getElem?_map, hv]; rfl
  have hpx : p < xs.length := by omega
  have hpD' : xs[p] = v.d := by rw [List.getElem?_eq_getElem hpx] at hpD; injection hpD
  generalize wC ys.length = w at *
  clear hxs
  clear hC hp hv
  obtain ⟨vk, vn, vs', vt⟩ := v
  simp only [V.d] at *
  rw [Yv (X := X) _ b29 _ rfl rfl]; unfold b29; (repeat (first | rw [ZB] | rw [Ze (by simp [go_sem, e39, e62, e71, hD, d0, d1, d2, hpD, hpD', hyl, hpl, Yy]; exact ⟨rfl, rfl⟩)] | rw [ZR (by simp [lk, Za, Od.v, e39, e62, e71, hD, d0, d1, d2, hpD, hpD', hyl, hpl, Yy]; exact rfl)] | rw [Zq] | rw [Zp] | rw [ZJ] | rw [ZV] | rw [ZK] | rw [ZU] | rw [ZM] | rw [ZL] | rw [ZC] | rw [Zs] | rw [Zt] | rw [Zh (by decide)] | rw [Zr] | rw [Zf] | rw [Zg] | rw [Zb (by decide)] | rw [ZY] | rw [ZW (by simp [go_sem, e39, e62, e71, hD, d0, d1, d2, hpD, hpD', hyl, hpl, Yy]; exact ⟨rfl, rfl⟩)] | rw [ZX (by simp [lk, Za, Od.v, e39, e62, e71, hD, d0, d1, d2, hpD, hpD', hyl, hpl, Yy]; exact rfl)] | rw [ZS])); simp [Yf, Yg, Yr, go_sem, fin, fz0, fz1, fzT, fzL, nlt, e39, e62, e71, hD, d0, d1, d2, hpD, hpD', hyl, hpl, Yy]
/-- What Build tells may be. -/
theorem colOk {n : Nat} {S : DV} {ls ys : List V} (hn : ls.length = n) (hb : n ≤ 200) (hS : ValL S ys) (hU : Up ys) (hm : ∀ x, x ∈ ys ↔ x ∈ ls) (hyl : ys.length ≤ n) (hmay : ∀ x ∈ ls, mayV x = true) :
    ColOk n S (.list 1 ((pack (ls.map (place ys)) (wC ys.length)).map bD) false) ys (ls.map (place ys)) where
  dict := hS
  up := hU
  may := fun x hx => hmay x ((hm x).1 hx)
  yb := by omega
  bytes := .inr rfl
  len := by simpa using hn
  nb := by omega
  mem := by
    intro p
    constructor
    · intro h
      obtain ⟨x, hx, rfl⟩ := List.mem_map.1 h
      exact (List.getElem?_eq_some_iff.1 (up_at_place hU ((hm x).2 hx)).1).1
    · intro h
      exact List.mem_map.2 ⟨ys[p], (hm _).1 (List.getElem_mem h), up_place hU (List.getElem?_eq_getElem h)⟩
end Go.Proofs.YtebjndbigoddnaaDoor
