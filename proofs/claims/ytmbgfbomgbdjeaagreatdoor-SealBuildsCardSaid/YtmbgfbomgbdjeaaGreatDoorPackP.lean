/- Ideal runs. -/
import Derived.Test.YtmbgfbomgbdjeaaGreatDoorChecked
import Derived.Test.YtmbgfbomgbdjeaaGreatDoorPlainB
import Derived.Test.YtmbgfbomgbdjeaaGreatDoorNod
import Derived.Test.YtmbgfbomgbdjeaaGreatDoorStep
namespace Go.Proofs.YtmbgfbomgbdjeaaGreatDoor
set_option linter.unusedVariables false
set_option linter.unusedSimpArgs false
def BB (bs : List Nat) : Prop := ∀ x ∈ bs, x < 256
def e8 (bs : List Nat) (q : Nat) : Bool := (bs.getD (q / 8) 0).testBit (q % 8)
def setB (bs : List Nat) (a c : Nat) : List Nat := bs.set (a / 8) (bs.getD (a / 8) 0 ||| c * 2 ^ (a % 8))
theorem Hw (bs : List Nat) (a c : Nat) : (setB bs a c).length = bs.length := by simp [setB]
theorem BB.getD {bs : List Nat} (h : BB bs) (k : Nat) : bs.getD k 0 < 256 := by
 rw [List.getD_eq_getElem?_getD]
 cases e : bs[k]? with
 | none => simp
 | some x => exact h x (List.mem_of_getElem? e)
theorem BU {b c j : Nat} (hb : b < 256) (hc : c ≤ 1) (hj : j < 8) : b ||| c * 2 ^ j < 256 := by
 have h2 : c * 2 ^ j < 2 ^ 8 := by
  have : 2 ^ j ≤ 2 ^ 7 := Nat.pow_le_pow_right (by omega) (by omega)
  have : c * 2 ^ j ≤ 1 * 2 ^ 7 := Nat.mul_le_mul hc this
  omega
 exact Nat.or_lt_two_pow (n := 8) hb h2
theorem BB.setB {bs : List Nat} (h : BB bs) (a : Nat) {c : Nat} (hc : c ≤ 1) : BB (setB bs a c) := by
 intro x hx
 rcases List.mem_or_eq_of_mem_set hx with hx | rfl
 ·exact h x hx
 ·exact BU (h.getD _) hc (Nat.mod_lt _ (by decide))
theorem Gv {bs : List Nat} {a c : Nat} (h : a / 8 < bs.length) (hc : c ≤ 1) (q : Nat) : e8 (Go.Proofs.YtmbgfbomgbdjeaaGreatDoor.setB bs a c) q = (e8 bs q || (decide (q = a) && decide (c = 1))) := by
 unfold e8 Go.Proofs.YtmbgfbomgbdjeaaGreatDoor.setB
 by_cases hq : q / 8 = a / 8
 ·rw [List.getD_eq_getElem?_getD, hq, List.getElem?_set_self h]
  simp only [Option.getD_some]
  rw [Nat.testBit_or]
  congr 1
  rcases (by omega : c = 0 ∨ c = 1) with rfl | rfl
  ·simp
  ·rw [Nat.one_mul, Nat.testBit_two_pow]
   simp only [decide_true, Bool.and_true]
   apply decide_eq_decide.2
   omega
 ·have hne : q ≠ a := fun e => hq (by rw [e])
  rw [List.getD_eq_getElem?_getD, List.getElem?_set_ne (fun e => hq e.symm), ← List.getD_eq_getElem?_getD]
  simp [hne]
theorem yF {xs bs : List Nat} (hl : xs.length = bs.length) (ha : BB xs) (hb : BB bs) (h : ∀ q, e8 xs q = e8 bs q) : xs = bs := by
 apply List.ext_getElem hl
 intro p h1 h2
 apply Nat.eq_of_testBit_eq
 intro j
 have ea : xs.getD p 0 = xs[p] := by rw [List.getD_eq_getElem?_getD, List.getElem?_eq_getElem h1]; rfl
 have eb : bs.getD p 0 = bs[p] := by rw [List.getD_eq_getElem?_getD, List.getElem?_eq_getElem h2]; rfl
 by_cases hj : j < 8
 ·have := h (8 * p + j)
  unfold e8 at this
  rw [show (8 * p + j) / 8 = p by omega, show (8 * p + j) % 8 = j by omega, ea, eb] at this
  exact this
 ·have la := ha _ (List.getElem_mem h1)
  have lb := hb _ (List.getElem_mem h2)
  have hp : 256 ≤ 2 ^ j := Nat.le_trans (by decide : 256 ≤ 2 ^ 8) (Nat.pow_le_pow_right (by omega) (by omega))
  rw [Nat.testBit_lt_two_pow (by omega), Nat.testBit_lt_two_pow (by omega)]
theorem DY (n k : Nat) : decide (n / 2 ^ k % 2 = 1) = n.testBit k := by
 rw [Nat.testBit_eq_decide_div_mod_eq]
def oO (w i n : Nat) : Nat → List Nat → List Nat
 | 0, bs => bs
 | k + 1, bs => setB (oO w i n k bs) (i * w + k) (n / 2 ^ k % 2)
theorem pB (w i n : Nat) : ∀ (k : Nat) (bs : List Nat), (oO w i n k bs).length = bs.length
 | 0, _ => rfl
 | k + 1, bs => by rw [oO, Hw, pB w i n k]
theorem zC (w i n : Nat) : ∀ (k : Nat) {bs : List Nat}, BB bs → BB (oO w i n k bs)
 | 0, _, h => h
 | k + 1, bs, h => (zC w i n k h).setB _ (by omega)
theorem BR (w i n : Nat) : ∀ (k : Nat) (bs : List Nat), i * w + k ≤ 8 * bs.length → ∀ q, e8 (oO w i n k bs) q = (e8 bs q || (decide (i * w ≤ q) && decide (q < i * w + k) && n.testBit (q - i * w)))
 | 0, bs, _, q => by
  have : (decide (i * w ≤ q) && decide (q < i * w + 0)) = false := by simp
  rw [this]; simp [oO]
 | k + 1, bs, h, q => by
  rw [oO, Gv (by rw [pB]; omega) (by omega), BR w i n k bs (by omega), DY, Bool.or_assoc]
  congr 1
  by_cases h1 : q = i * w + k
  ·subst h1
   have : ¬ i * w + k < i * w + k := by omega
   simp [this]
  ·by_cases h2 : q < i * w + k
   ·have h3 : q < i * w + (k + 1) := by omega
    simp [h1, h2, h3]
   ·have h3 : ¬ q < i * w + (k + 1) := by omega
    simp [h1, h2, h3]
def iU (w : Nat) : List Nat → Nat → List Nat → List Nat
 | [], _, bs => bs
 | n :: l, i, bs => iU w l (i + 1) (oO w i n w bs)
theorem xe (w : Nat) : ∀ (l : List Nat) (i : Nat) (bs : List Nat), (iU w l i bs).length = bs.length
 | [], _, _ => rfl
 | n :: l, i, bs => by rw [iU, xe w l, pB]
theorem zB (w : Nat) : ∀ (l : List Nat) (i : Nat) {bs : List Nat}, BB bs → BB (iU w l i bs)
 | [], _, _, h => h
 | n :: l, i, bs, h => zB w l (i + 1) (zC w i n w h)
theorem zA (w : Nat) : ∀ (l : List Nat) (i n : Nat) (bs : List Nat), iU w (l ++ [n]) i bs = oO w (i + l.length) n w (iU w l i bs)
 | [], i, n, bs => rfl
 | m :: l, i, n, bs => by
  rw [List.cons_append, iU, zA w l, iU]
  congr 1
  simp; omega
theorem BQ {w : Nat} (hw : 0 < w) : ∀ (l : List Nat) (i : Nat) (bs : List Nat), (i + l.length) * w ≤ 8 * bs.length → ∀ q, e8 (iU w l i bs) q = (e8 bs q || (decide (i * w ≤ q) && decide (q < (i + l.length) * w) && (l.getD (q / w - i) 0).testBit (q % w)))
 | [], i, bs, _, q => by
  have : (decide (i * w ≤ q) && decide (q < (i + 0) * w)) = false := by simp
  simp only [List.length_nil]
  rw [this]; simp [iU]
 | n :: l, i, bs, h, q => by
  simp only [List.length_cons] at h ⊢
  have e : (i + 1 + l.length) * w = (i + (l.length + 1)) * w := by congr 1; omega
  have hle : i * w + w ≤ (i + (l.length + 1)) * w := by
   rw [← Nat.succ_mul]; exact Nat.mul_le_mul_right w (by omega)
  rw [iU, BQ hw l (i + 1) _ (by rw [pB, e]; exact h), BR w i n w bs (by omega), Bool.or_assoc, e]
  congr 1
  have hs : (i + 1) * w = i * w + w := Nat.succ_mul i w
  by_cases h1 : i * w ≤ q
  ·by_cases h2 : q < i * w + w
   ·have hd : q / w = i := by
     apply Nat.div_eq_of_lt_le
     ·exact h1
     ·rw [Nat.succ_mul]; exact h2
    have hm : q % w = q - i * w := by
     have := Nat.div_add_mod q w
     rw [hd, Nat.mul_comm] at this; omega
    have h3 : ¬ (i + 1) * w ≤ q := by omega
    have h4 : q < (i + (l.length + 1)) * w := by omega
    rw [hd, hm, Nat.sub_self]
    simp [h1, h2, h3, h4]
   ·have h3 : (i + 1) * w ≤ q := by omega
    have hd : i + 1 ≤ q / w := (Nat.le_div_iff_mul_le hw).2 h3
    rw [show q / w - i = (q / w - (i + 1)) + 1 by omega]
    simp [h1, h2, h3]
  ·have h3 : ¬ (i + 1) * w ≤ q := by omega
   simp [h1, h3]
def pack (l : List Nat) (w : Nat) : List Nat := iU w l 0 (List.replicate ((l.length * w + 7) / 8) 0)
theorem gA (l : List Nat) (w : Nat) : (pack l w).length = (l.length * w + 7) / 8 := by simp [pack, xe]
theorem pC (l : List Nat) (w : Nat) : BB (pack l w) := zB w l 0 (fun x hx => by rw [List.eq_of_mem_replicate hx]; decide)
theorem qx (l : List Nat) (w : Nat) (q : Nat) : e8 (pack l w) q = (decide (q < l.length * w) && (l.getD (q / w) 0).testBit (q % w)) := by
 have h0 : ∀ m, e8 (List.replicate m 0) q = false := by
  intro m
  unfold e8
  rw [List.getD_eq_getElem?_getD, List.getElem?_replicate]
  split <;> simp
 rcases Nat.eq_zero_or_pos w with rfl | hw
 ·have : e8 (pack l 0) q = false := by
   unfold e8
   rw [List.getD_eq_getElem?_getD, List.getElem?_eq_none (by rw [gA]; omega)]
   simp
  rw [this]; simp
 ·unfold pack
  rw [BQ hw l 0 _ (by simp; omega), h0]
  simp
def eZ (n w : Nat) : List Nat := (List.range w).map fun k => n / 2 ^ k % 2
def eA (l : List Nat) (w : Nat) : List Nat := l.flatMap fun n => eZ n w
def rG (a : List Nat) : List Nat := a ++ List.replicate ((8 - a.length % 8) % 8) 0
def dI : List Nat → Nat
 | [] => 0
 | b :: l => 2 * dI l + b
def kC (a : List Nat) : List Nat := (List.range (a.length / 8)).map fun p => dI ((a.drop (8 * p)).take 8)
theorem kP (n w : Nat) : (eZ n w).length = w := by simp [eZ]
theorem oG (w : Nat) : ∀ l : List Nat, (eA l w).length = l.length * w
 | [] => by simp [eA]
 | n :: l => by
  have := oG w l
  simp only [eA, List.flatMap_cons, List.length_append, kP, List.length_cons] at this ⊢
  rw [this, Nat.succ_mul]; omega
theorem Bo {w : Nat} (hw : 0 < w) : ∀ (l : List Nat) (q : Nat), q < l.length * w → (eA l w).getD q 0 = l.getD (q / w) 0 / 2 ^ (q % w) % 2
 | [], q, h => by simp at h
 | n :: l, q, h => by
  have e : eA (n :: l) w = eZ n w ++ eA l w := rfl
  rw [e]
  by_cases c : q < w
  ·rw [List.getD_eq_getElem?_getD, List.getElem?_append_left (by rw [kP]; exact c), Nat.div_eq_of_lt c, Nat.mod_eq_of_lt c]
   simp [eZ, c]
  ·have hq : q - w < l.length * w := by
    simp only [List.length_cons, Nat.succ_mul] at h; omega
   have ih := Bo hw l (q - w) hq
   rw [List.getD_eq_getElem?_getD, List.getElem?_append_right (by rw [kP]; omega), kP, ← List.getD_eq_getElem?_getD, ih]
   have hd : q / w = (q - w) / w + 1 := by
    rw [← Nat.add_div_right _ hw]; congr 1; omega
   have hm : q % w = (q - w) % w := by
    rw [Nat.mod_eq_sub_mod (by omega)]
   rw [hd, hm]
   simp
theorem yS : ∀ (l : List Nat), (∀ b ∈ l, b ≤ 1) → ∀ j, (dI l).testBit j = decide (l.getD j 0 = 1)
 | [], _, j => by simp [dI]
 | b :: l, h, j => by
  have hb : b ≤ 1 := h b (by simp)
  have ih := yS l (fun x hx => h x (by simp [hx]))
  rw [dI]
  cases j with
  | zero =>
   rw [Nat.testBit_zero]
   simp only [List.getD_cons_zero]
   apply decide_eq_decide.2
   omega
  | succ j =>
   rw [Nat.testBit_succ, show (2 * dI l + b) / 2 = dI l by omega, ih]
   simp
theorem wW : ∀ (l : List Nat), (∀ b ∈ l, b ≤ 1) → dI l < 2 ^ l.length
 | [], _ => by simp [dI]
 | b :: l, h => by
  have hb : b ≤ 1 := h b (by simp)
  have ih := wW l (fun x hx => h x (by simp [hx]))
  rw [dI, List.length_cons, Nat.pow_succ]; omega
theorem xK {w : Nat} {l : List Nat} : ∀ b ∈ eA l w, b ≤ 1 := by
 intro b hb
 simp only [eA, List.mem_flatMap, eZ, List.mem_map] at hb
 obtain ⟨n, _, k, _, rfl⟩ := hb
 omega
theorem xf {a : List Nat} (h : ∀ b ∈ a, b ≤ 1) : ∀ b ∈ rG a, b ≤ 1 := by
 intro b hb
 rcases List.mem_append.1 hb with hb | hb
 ·exact h b hb
 ·rw [List.eq_of_mem_replicate hb]; decide
theorem uA (a : List Nat) : (rG a).length = (a.length + 7) / 8 * 8 := by
 simp only [rG, List.length_append, List.length_replicate]; omega
theorem HR (a : List Nat) (q : Nat) : (rG a).getD q 0 = a.getD q 0 := by
 simp only [rG, List.getD_eq_getElem?_getD]
 by_cases c : q < a.length
 ·rw [List.getElem?_append_left c]
 ·rw [List.getElem?_append_right (by omega), List.getElem?_eq_none (l := a) (by omega), List.getElem?_replicate]
  split <;> rfl
theorem wK (a : List Nat) : (kC a).length = a.length / 8 := by simp [kC]
theorem Gt {a : List Nat} (h : ∀ b ∈ a, b ≤ 1) : BB (kC a) := by
 intro x hx
 simp only [kC, List.mem_map] at hx
 obtain ⟨p, _, rfl⟩ := hx
 have h1 := wW ((a.drop (8 * p)).take 8) (fun b hb => h b (List.mem_of_mem_drop (List.mem_of_mem_take hb)))
 have h2 : 2 ^ ((a.drop (8 * p)).take 8).length ≤ 2 ^ 8 := Nat.pow_le_pow_right (by omega) (by rw [List.length_take]; omega)
 omega
theorem DU {a : List Nat} (h : ∀ b ∈ a, b ≤ 1) (h8 : a.length % 8 = 0) (q : Nat) : e8 (kC a) q = decide (a.getD q 0 = 1) := by
 unfold e8
 by_cases c : q / 8 < a.length / 8
 ·have e : (kC a).getD (q / 8) 0 = dI ((a.drop (8 * (q / 8))).take 8) := by
   rw [List.getD_eq_getElem?_getD]; simp [kC, c]
  rw [e, yS _ (fun b hb => h b (List.mem_of_mem_drop (List.mem_of_mem_take hb)))]
  have e2 : ((a.drop (8 * (q / 8))).take 8).getD (q % 8) 0 = a.getD q 0 := by
   simp only [List.getD_eq_getElem?_getD]
   rw [List.getElem?_take_of_lt (by omega), List.getElem?_drop]
   congr 2; omega
  rw [e2]
 ·rw [List.getD_eq_getElem?_getD, List.getElem?_eq_none (by rw [wK]; omega), List.getD_eq_getElem?_getD, List.getElem?_eq_none (by omega)]
  simp
theorem Ru (l : List Nat) (w : Nat) : kC (rG (eA l w)) = pack l w := by
 apply yF
 ·rw [wK, uA, oG, gA]; omega
 ·exact Gt (xf xK)
 ·exact pC l w
 ·intro q
  rw [DU (xf xK) (by rw [uA]; omega), HR, qx]
  by_cases c : q < l.length * w
  ·have hw : 0 < w := by
    rcases Nat.eq_zero_or_pos w with rfl | h
    ·omega
    ·exact h
   rw [Bo hw l q c, DY]; simp [c]
  ·rw [List.getD_eq_getElem?_getD, List.getElem?_eq_none (by rw [oG]; omega)]
   simp [c]
set_option maxRecDepth 10000
abbrev bD (n : Nat) : DV := .int .u8 (n : Int)
def wN (n : Nat) : Nat := Go.Sort.bitsLen n
theorem JY (n : Nat) (hn : n < 256) (h : Zb) : E X 92 [.int .i64 n] h = some (.int .i64 (wN n : Nat), h) := by
 have e := zo n hn h
 have m1 := HU n
 have u1 : IntKind.u64.wrap (n : Int) = (n : Int) := by rw [mP, Nat.mod_eq_of_lt (by omega)]
 rw [Zz (X := X) _ Gy _ rfl rfl]; unfold Gy; (repeat (first | rw [ZM] | rw [Zq (by simp [ZN, ZG, ZF, ZH, Zt, Zh, Zp, Zk, Zm, Ze, Zf, Zl, Zu, Zv, ZI, ↓Zj, Zs, Zi, ZE, Zy, Zx, ZX, ZA, Yp, put, lk, Od.v, Za, Zg, Zo, ax, Yg, Yh, Yd, ay, eqk, DV.isU, DV.cells, ae, ZO, Yb, ZP, Zr, splice, DV.one, ZR, af, ZY, eqs, e, m1, u1, wN]; exact ⟨rfl, rfl⟩)] | rw [Yk (by simp [lk, Za, Od.v, e, m1, u1, wN]; exact rfl)] | rw [Zy] | rw [Zx] | rw [ZZ] | rw [Ys] | rw [Yc] | rw [Yr] | rw [Yf] | rw [Ye] | rw [ZV] | rw [ZT] | rw [ZU] | rw [ZL (by decide)] | rw [ZQ] | rw [ZJ] | rw [ZK] | rw [ZC (by decide)] | rw [Yv] | rw [Yt (by simp [ZN, ZG, ZF, ZH, Zt, Zh, Zp, Zk, Zm, Ze, Zf, Zl, Zu, Zv, ZI, ↓Zj, Zs, Zi, ZE, Zy, Zx, ZX, ZA, Yp, put, lk, Od.v, Za, Zg, Zo, ax, Yg, Yh, Yd, ay, eqk, DV.isU, DV.cells, ae, ZO, Yb, ZP, Zr, splice, DV.one, ZR, af, ZY, eqs, e, m1, u1, wN]; exact ⟨rfl, rfl⟩)] | rw [Yu (by simp [lk, Za, Od.v, e, m1, u1, wN]; exact rfl)] | rw [Yn])); simp [Zn, ZS, ZW, ZN, ZG, ZF, ZH, Zt, Zh, Zp, Zk, Zm, Ze, Zf, Zl, Zu, Zv, ZI, ↓Zj, Zs, Zi, ZE, Zy, Zx, ZX, ZA, Yp, put, lk, Od.v, Za, Zg, Zo, ax, Yg, Yh, Yd, ay, eqk, DV.isU, DV.cells, ae, ZO, Yb, ZP, Zr, splice, DV.one, ZR, af, ZY, eqs, fin, aO, aJ, bq, cZ, d8, e, m1, u1, wN]
theorem Ms (h : Zb) : E X 92 [.int .i64 (-1)] h = some (.int .i64 0, h) := by
 have e := zo 0 (by omega) h
 have m1 : mm true .i64 (-1) [.int .i64 0] = some 0 := by rfl
 have u1 : IntKind.u64.wrap (0 : Int) = 0 := by rfl
 have b0 : Go.Sort.bitsLen 0 = 0 := rfl
 rw [b0, show ((0 : Nat) : Int) = 0 from rfl] at e
 rw [Zz (X := X) _ Gy _ rfl rfl]; unfold Gy; (repeat (first | rw [ZM] | rw [Zq (by simp [ZN, ZG, ZF, ZH, Zt, Zh, Zp, Zk, Zm, Ze, Zf, Zl, Zu, Zv, ZI, ↓Zj, Zs, Zi, ZE, Zy, Zx, ZX, ZA, Yp, put, lk, Od.v, Za, Zg, Zo, ax, Yg, Yh, Yd, ay, eqk, DV.isU, DV.cells, ae, ZO, Yb, ZP, Zr, splice, DV.one, ZR, af, ZY, eqs, e, m1, u1]; exact ⟨rfl, rfl⟩)] | rw [Yk (by simp [lk, Za, Od.v, e, m1, u1]; exact rfl)] | rw [Zy] | rw [Zx] | rw [ZZ] | rw [Ys] | rw [Yc] | rw [Yr] | rw [Yf] | rw [Ye] | rw [ZV] | rw [ZT] | rw [ZU] | rw [ZL (by decide)] | rw [ZQ] | rw [ZJ] | rw [ZK] | rw [ZC (by decide)] | rw [Yv] | rw [Yt (by simp [ZN, ZG, ZF, ZH, Zt, Zh, Zp, Zk, Zm, Ze, Zf, Zl, Zu, Zv, ZI, ↓Zj, Zs, Zi, ZE, Zy, Zx, ZX, ZA, Yp, put, lk, Od.v, Za, Zg, Zo, ax, Yg, Yh, Yd, ay, eqk, DV.isU, DV.cells, ae, ZO, Yb, ZP, Zr, splice, DV.one, ZR, af, ZY, eqs, e, m1, u1]; exact ⟨rfl, rfl⟩)] | rw [Yu (by simp [lk, Za, Od.v, e, m1, u1]; exact rfl)] | rw [Yn])); simp [Zn, ZS, ZW, ZN, ZG, ZF, ZH, Zt, Zh, Zp, Zk, Zm, Ze, Zf, Zl, Zu, Zv, ZI, ↓Zj, Zs, Zi, ZE, Zy, Zx, ZX, ZA, Yp, put, lk, Od.v, Za, Zg, Zo, ax, Yg, Yh, Yd, ay, eqk, DV.isU, DV.cells, ae, ZO, Yb, ZP, Zr, splice, DV.one, ZR, af, ZY, eqs, fin, aO, aJ, bq, cZ, d8, e, m1, u1]
def wC (n : Nat) : Nat := wN (n - 1)
theorem CW (n : Nat) (hn : n ≤ 256) (h : Zb) : E X 61 [.int .i64 n] h = some (.int .i64 (wC n : Nat), h) := by
 rcases Nat.eq_zero_or_pos n with rfl | hp
 ·have e := Ms h
  have z : IntKind.i64.wrap (-1) = -1 := by rfl
  have b0 : wC 0 = 0 := rfl
  rw [b0]
  rw [Zz (X := X) _ GK _ rfl rfl]; unfold GK; (repeat (first | rw [ZM] | rw [Zq (by simp [ZN, ZG, ZF, ZH, Zt, Zh, Zp, Zk, Zm, Ze, Zf, Zl, Zu, Zv, ZI, ↓Zj, Zs, Zi, ZE, Zy, Zx, ZX, ZA, Yp, put, lk, Od.v, Za, Zg, Zo, ax, Yg, Yh, Yd, ay, eqk, DV.isU, DV.cells, ae, ZO, Yb, ZP, Zr, splice, DV.one, ZR, af, ZY, eqs, e, z]; exact ⟨rfl, rfl⟩)] | rw [Yk (by simp [lk, Za, Od.v, e, z]; exact rfl)] | rw [Zy] | rw [Zx] | rw [ZZ] | rw [Ys] | rw [Yc] | rw [Yr] | rw [Yf] | rw [Ye] | rw [ZV] | rw [ZT] | rw [ZU] | rw [ZL (by decide)] | rw [ZQ] | rw [ZJ] | rw [ZK] | rw [ZC (by decide)] | rw [Yv] | rw [Yt (by simp [ZN, ZG, ZF, ZH, Zt, Zh, Zp, Zk, Zm, Ze, Zf, Zl, Zu, Zv, ZI, ↓Zj, Zs, Zi, ZE, Zy, Zx, ZX, ZA, Yp, put, lk, Od.v, Za, Zg, Zo, ax, Yg, Yh, Yd, ay, eqk, DV.isU, DV.cells, ae, ZO, Yb, ZP, Zr, splice, DV.one, ZR, af, ZY, eqs, e, z]; exact ⟨rfl, rfl⟩)] | rw [Yu (by simp [lk, Za, Od.v, e, z]; exact rfl)] | rw [Yn])); simp [Zn, ZS, ZW, ZN, ZG, ZF, ZH, Zt, Zh, Zp, Zk, Zm, Ze, Zf, Zl, Zu, Zv, ZI, ↓Zj, Zs, Zi, ZE, Zy, Zx, ZX, ZA, Yp, put, lk, Od.v, Za, Zg, Zo, ax, Yg, Yh, Yd, ay, eqk, DV.isU, DV.cells, ae, ZO, Yb, ZP, Zr, splice, DV.one, ZR, af, ZY, eqs, fin, aO, aJ, bq, cZ, d8, e, z]
 ·obtain ⟨k, hk⟩ : ∃ k, k = n - 1 := ⟨_, rfl⟩
  have e := JY k (by omega) h
  have z : IntKind.i64.wrap ((n : Int) - 1) = (k : Int) := wr
  have b0 : wC n = wN k := by rw [hk]; rfl
  rw [b0]
  rw [Zz (X := X) _ GK _ rfl rfl]; unfold GK; (repeat (first | rw [ZM] | rw [Zq (by simp [ZN, ZG, ZF, ZH, Zt, Zh, Zp, Zk, Zm, Ze, Zf, Zl, Zu, Zv, ZI, ↓Zj, Zs, Zi, ZE, Zy, Zx, ZX, ZA, Yp, put, lk, Od.v, Za, Zg, Zo, ax, Yg, Yh, Yd, ay, eqk, DV.isU, DV.cells, ae, ZO, Yb, ZP, Zr, splice, DV.one, ZR, af, ZY, eqs, e, z]; exact ⟨rfl, rfl⟩)] | rw [Yk (by simp [lk, Za, Od.v, e, z]; exact rfl)] | rw [Zy] | rw [Zx] | rw [ZZ] | rw [Ys] | rw [Yc] | rw [Yr] | rw [Yf] | rw [Ye] | rw [ZV] | rw [ZT] | rw [ZU] | rw [ZL (by decide)] | rw [ZQ] | rw [ZJ] | rw [ZK] | rw [ZC (by decide)] | rw [Yv] | rw [Yt (by simp [ZN, ZG, ZF, ZH, Zt, Zh, Zp, Zk, Zm, Ze, Zf, Zl, Zu, Zv, ZI, ↓Zj, Zs, Zi, ZE, Zy, Zx, ZX, ZA, Yp, put, lk, Od.v, Za, Zg, Zo, ax, Yg, Yh, Yd, ay, eqk, DV.isU, DV.cells, ae, ZO, Yb, ZP, Zr, splice, DV.one, ZR, af, ZY, eqs, e, z]; exact ⟨rfl, rfl⟩)] | rw [Yu (by simp [lk, Za, Od.v, e, z]; exact rfl)] | rw [Yn])); simp [Zn, ZS, ZW, ZN, ZG, ZF, ZH, Zt, Zh, Zp, Zk, Zm, Ze, Zf, Zl, Zu, Zv, ZI, ↓Zj, Zs, Zi, ZE, Zy, Zx, ZX, ZA, Yp, put, lk, Od.v, Za, Zg, Zo, ax, Yg, Yh, Yd, ay, eqk, DV.isU, DV.cells, ae, ZO, Yb, ZP, Zr, splice, DV.one, ZR, af, ZY, eqs, fin, aO, aJ, bq, cZ, d8, e, z]
theorem CS (n w : Nat) (hn : n ≤ 100000) (hw : w ≤ 62) (h : Zb) : E X 91 [.int .i64 n, .int .i64 w] h = some (.int .i64 ((n * w + 7) / 8 : Nat), h) := by
 have hm : n * w ≤ 100000 * 62 := Nat.mul_le_mul hn hw
 obtain ⟨P, hP⟩ : ∃ P, P = n * w := ⟨_, rfl⟩
 have z1 : IntKind.i64.wrap ((n : Int) * (w : Int)) = (P : Int) := by
  rw [← Int.natCast_mul, ← hP, wrap64 _ (by omega) (by omega)]
 obtain ⟨Q, hQ⟩ : ∃ Q, Q = P + 7 := ⟨_, rfl⟩
 have z2 : IntKind.i64.wrap ((P : Int) + 7) = (Q : Int) := wr
 obtain ⟨R, hR⟩ : ∃ R, R = Q / 8 := ⟨_, rfl⟩
 have z3 : IntKind.i64.wrap ((Q : Int) / 8) = (R : Int) := wr
 rw [← hP, ← hQ, ← hR]
 clear hP hQ hR hm
 rw [Zz (X := X) _ P5 _ rfl rfl]; unfold P5; (repeat (first | rw [ZM] | rw [Zq (by simp [ZN, ZG, ZF, ZH, Zt, Zh, Zp, Zk, Zm, Ze, Zf, Zl, Zu, Zv, ZI, ↓Zj, Zs, Zi, ZE, Zy, Zx, ZX, ZA, Yp, put, lk, Od.v, Za, Zg, Zo, ax, Yg, Yh, Yd, ay, eqk, DV.isU, DV.cells, ae, ZO, Yb, ZP, Zr, splice, DV.one, ZR, af, ZY, eqs, z1, z2, z3]; exact ⟨rfl, rfl⟩)] | rw [Yk (by simp [lk, Za, Od.v, z1, z2, z3]; exact rfl)] | rw [Zy] | rw [Zx] | rw [ZZ] | rw [Ys] | rw [Yc] | rw [Yr] | rw [Yf] | rw [Ye] | rw [ZV] | rw [ZT] | rw [ZU] | rw [ZL (by decide)] | rw [ZQ] | rw [ZJ] | rw [ZK] | rw [ZC (by decide)] | rw [Yv] | rw [Yt (by simp [ZN, ZG, ZF, ZH, Zt, Zh, Zp, Zk, Zm, Ze, Zf, Zl, Zu, Zv, ZI, ↓Zj, Zs, Zi, ZE, Zy, Zx, ZX, ZA, Yp, put, lk, Od.v, Za, Zg, Zo, ax, Yg, Yh, Yd, ay, eqk, DV.isU, DV.cells, ae, ZO, Yb, ZP, Zr, splice, DV.one, ZR, af, ZY, eqs, z1, z2, z3]; exact ⟨rfl, rfl⟩)] | rw [Yu (by simp [lk, Za, Od.v, z1, z2, z3]; exact rfl)] | rw [Yn])); simp [Zn, ZS, ZW, ZN, ZG, ZF, ZH, Zt, Zh, Zp, Zk, Zm, Ze, Zf, Zl, Zu, Zv, ZI, ↓Zj, Zs, Zi, ZE, Zy, Zx, ZX, ZA, Yp, put, lk, Od.v, Za, Zg, Zo, ax, Yg, Yh, Yd, ay, eqk, DV.isU, DV.cells, ae, ZO, Yb, ZP, Zr, splice, DV.one, ZR, af, ZY, eqs, fin, aO, aJ, bq, cZ, d8, z1, z2, z3]
theorem CU (w : Nat) (hw : w ≤ 62) (h : Zb) : E X 90 [.int .i64 w] h = some (.bool true, h) := by
 have h2 : (w : Int) ≤ 62 := by omega
 rw [Zz (X := X) _ P6 _ rfl rfl]; unfold P6; (repeat (first | rw [ZM] | rw [Zq (by simp [ZN, ZG, ZF, ZH, Zt, Zh, Zp, Zk, Zm, Ze, Zf, Zl, Zu, Zv, ZI, ↓Zj, Zs, Zi, ZE, Zy, Zx, ZX, ZA, Yp, put, lk, Od.v, Za, Zg, Zo, ax, Yg, Yh, Yd, ay, eqk, DV.isU, DV.cells, ae, ZO, Yb, ZP, Zr, splice, DV.one, ZR, af, ZY, eqs, h2, hw]; exact ⟨rfl, rfl⟩)] | rw [Yk (by simp [lk, Za, Od.v, h2, hw]; exact rfl)] | rw [Zy] | rw [Zx] | rw [ZZ] | rw [Ys] | rw [Yc] | rw [Yr] | rw [Yf] | rw [Ye] | rw [ZV] | rw [ZT] | rw [ZU] | rw [ZL (by decide)] | rw [ZQ] | rw [ZJ] | rw [ZK] | rw [ZC (by decide)] | rw [Yv] | rw [Yt (by simp [ZN, ZG, ZF, ZH, Zt, Zh, Zp, Zk, Zm, Ze, Zf, Zl, Zu, Zv, ZI, ↓Zj, Zs, Zi, ZE, Zy, Zx, ZX, ZA, Yp, put, lk, Od.v, Za, Zg, Zo, ax, Yg, Yh, Yd, ay, eqk, DV.isU, DV.cells, ae, ZO, Yb, ZP, Zr, splice, DV.one, ZR, af, ZY, eqs, h2, hw]; exact ⟨rfl, rfl⟩)] | rw [Yu (by simp [lk, Za, Od.v, h2, hw]; exact rfl)] | rw [Yn])); simp [Zn, ZS, ZW, ZN, ZG, ZF, ZH, Zt, Zh, Zp, Zk, Zm, Ze, Zf, Zl, Zu, Zv, ZI, ↓Zj, Zs, Zi, ZE, Zy, Zx, ZX, ZA, Yp, put, lk, Od.v, Za, Zg, Zo, ax, Yg, Yh, Yd, ay, eqk, DV.isU, DV.cells, ae, ZO, Yb, ZP, Zr, splice, DV.one, ZR, af, ZY, eqs, fin, aO, aJ, bq, cZ, d8, h2, hw]
theorem I1 {h h' : Zb} (hl : h'.length = h.length) : fin h h' [] = (.tup [], h') := by
 unfold fin
 split
 ·rename_i hd; cases hd
 ·split
  ·rename_i ht
   rw [List.take_of_length_le (by omega)] at ht
   subst ht
   rfl
  ·rfl
theorem Nv {f w i : Nat} {cap : List DV} {S : Nat → Zb} (hw : w ≤ 62) (hi : i ≤ 100000) (hf : ∀ k, k < w → E X f (.int .i64 (i * w + k : Nat) :: .int .i64 k :: cap) (S k) = some (.tup [], S (k + 1))) :
 ∀ (m k : Nat), w - k ≤ m → k ≤ w → ∃ y ex, C X (.loop rJ) [(0, .int .i64 i), (1, .int .i64 w), (2, .func f [] cap), (7, .int .i64 w), (8, .int .i64 k)] (S k) = some (.exit 0, (0, .int .i64 i) :: (1, .int .i64 w) :: (2, .func f [] cap) :: (7, .int .i64 w) :: (8, y) :: ex, S w) := by
 intro m
 induction m with
 | zero =>
  intro k hm hk
  obtain rfl : k = w := by omega
  refine ⟨.int .i64 k, [(9, .bool false)], ?_⟩
  rw [Zc]
  unfold rJ
  (repeat (first | rw [ZM] | rw [Zq (by simp [ZN, ZG, ZF, ZH, Zt, Zh, Zp, Zk, Zm, Ze, Zf, Zl, Zu, Zv, ZI, ↓Zj, Zs, Zi, ZE, Zy, Zx, ZX, ZA, Yp, put, lk, Od.v, Za, Zg, Zo, ax, Yg, Yh, Yd, ay, eqk, DV.isU, DV.cells, ae, ZO, Yb, ZP, Zr, splice, DV.one, ZR, af, ZY, eqs]; exact ⟨rfl, rfl⟩)] | rw [Yk (by simp [lk, Za, Od.v]; exact rfl)] | rw [Zy] | rw [Zx] | rw [ZZ] | rw [Ys] | rw [Yc] | rw [Yr] | rw [Yf] | rw [Ye] | rw [ZV] | rw [ZT] | rw [ZU] | rw [ZL (by decide)] | rw [ZQ] | rw [ZJ] | rw [ZK] | rw [ZC (by decide)] | rw [Yv] | rw [Yt (by simp [ZN, ZG, ZF, ZH, Zt, Zh, Zp, Zk, Zm, Ze, Zf, Zl, Zu, Zv, ZI, ↓Zj, Zs, Zi, ZE, Zy, Zx, ZX, ZA, Yp, put, lk, Od.v, Za, Zg, Zo, ax, Yg, Yh, Yd, ay, eqk, DV.isU, DV.cells, ae, ZO, Yb, ZP, Zr, splice, DV.one, ZR, af, ZY, eqs]; exact ⟨rfl, rfl⟩)] | rw [Yu (by simp [lk, Za, Od.v]; exact rfl)] | rw [Yn]))
  rw [Zw]
  simp [Za, lk]
 | succ m ih =>
  intro k hm hk
  by_cases c : k < w
  ·obtain ⟨K, hK⟩ : ∃ K, K = k + 1 := ⟨_, rfl⟩
   have z1 : IntKind.i64.wrap ((k : Int) + 1) = (K : Int) := wr
   have hmul : i * w ≤ 100000 * 62 := Nat.mul_le_mul hi hw
   have e := hf k c
   obtain ⟨P, hP⟩ : ∃ P, P = i * w := ⟨_, rfl⟩
   have z2 : IntKind.i64.wrap ((i : Int) * (w : Int)) = (P : Int) := by
    rw [← Int.natCast_mul, ← hP, wrap64 _ (by omega) (by omega)]
   obtain ⟨Q, hQ⟩ : ∃ Q, Q = P + k := ⟨_, rfl⟩
   have z3 : IntKind.i64.wrap ((P : Int) + (k : Int)) = (Q : Int) := wr
   rw [← hP, ← hQ, ← hK] at e
   have hs : C X rJ [(0, .int .i64 i), (1, .int .i64 w), (2, .func f [] cap), (7, .int .i64 w), (8, .int .i64 k)] (S k) = some (.norm, [(0, .int .i64 i), (1, .int .i64 w), (2, .func f [] cap), (7, .int .i64 w), (8, .int .i64 K)], S K) := by
    clear ih hf hP hQ hmul
    generalize S k = s1 at *
    generalize S K = s2 at *
    unfold rJ
    (repeat (first | rw [ZM] | rw [Zq (by simp [ZN, ZG, ZF, ZH, Zt, Zh, Zp, Zk, Zm, Ze, Zf, Zl, Zu, Zv, ZI, ↓Zj, Zs, Zi, ZE, Zy, Zx, ZX, ZA, Yp, put, lk, Od.v, Za, Zg, Zo, ax, Yg, Yh, Yd, ay, eqk, DV.isU, DV.cells, ae, ZO, Yb, ZP, Zr, splice, DV.one, ZR, af, ZY, eqs, c, z1, z2, z3, e]; exact ⟨rfl, rfl⟩)] | rw [Yk (by simp [lk, Za, Od.v, c, z1, z2, z3, e]; exact rfl)] | rw [Zy] | rw [Zx] | rw [ZZ] | rw [Ys] | rw [Yc] | rw [Yr] | rw [Yf] | rw [Ye] | rw [ZV] | rw [ZT] | rw [ZU] | rw [ZL (by decide)] | rw [ZQ] | rw [ZJ] | rw [ZK] | rw [ZC (by decide)] | rw [Yv] | rw [Yt (by simp [ZN, ZG, ZF, ZH, Zt, Zh, Zp, Zk, Zm, Ze, Zf, Zl, Zu, Zv, ZI, ↓Zj, Zs, Zi, ZE, Zy, Zx, ZX, ZA, Yp, put, lk, Od.v, Za, Zg, Zo, ax, Yg, Yh, Yd, ay, eqk, DV.isU, DV.cells, ae, ZO, Yb, ZP, Zr, splice, DV.one, ZR, af, ZY, eqs, c, z1, z2, z3, e]; exact ⟨rfl, rfl⟩)] | rw [Yu (by simp [lk, Za, Od.v, c, z1, z2, z3, e]; exact rfl)] | rw [Yn]))
    simp [Za, lk]
   rw [Zc, hs, ZB]
   exact ih K (by omega) (by omega)
  ·exact ih k (by omega) hk
theorem JX {f w i : Nat} {cap : List DV} {S : Nat → Zb} (hw : w ≤ 62) (hi : i ≤ 100000) (hf : ∀ k, k < w → E X f (.int .i64 (i * w + k : Nat) :: .int .i64 k :: cap) (S k) = some (.tup [], S (k + 1))) (hl : (S w).length = (S 0).length) :
 E X 93 [.int .i64 i, .int .i64 w, .func f [] cap] (S 0) = some (.tup [], S w) := by
 obtain ⟨y, ex, hc⟩ := Nv hw hi hf w 0 (by omega) (by omega)
 rw [show ((0 : Nat) : Int) = 0 from rfl] at hc
 have aD := I1 hl
 generalize S 0 = s1 at *
 generalize S w = s2 at *
 rw [Zz (X := X) _ P4 _ rfl rfl]; unfold P4
 (repeat (first | rw [ZM] | rw [Zq (by simp [ZN, ZG, ZF, ZH, Zt, Zh, Zp, Zk, Zm, Ze, Zf, Zl, Zu, Zv, ZI, ↓Zj, Zs, Zi, ZE, Zy, Zx, ZX, ZA, Yp, put, lk, Od.v, Za, Zg, Zo, ax, Yg, Yh, Yd, ay, eqk, DV.isU, DV.cells, ae, ZO, Yb, ZP, Zr, splice, DV.one, ZR, af, ZY, eqs]; exact ⟨rfl, rfl⟩)] | rw [Yk (by simp [lk, Za, Od.v]; exact rfl)] | rw [Zy] | rw [Zx] | rw [ZZ] | rw [Ys] | rw [Yc] | rw [Yr] | rw [Yf] | rw [Ye] | rw [ZV] | rw [ZT] | rw [ZU] | rw [ZL (by decide)] | rw [ZQ] | rw [ZJ] | rw [ZK] | rw [ZC (by decide)] | rw [Yv] | rw [Yt (by simp [ZN, ZG, ZF, ZH, Zt, Zh, Zp, Zk, Zm, Ze, Zf, Zl, Zu, Zv, ZI, ↓Zj, Zs, Zi, ZE, Zy, Zx, ZX, ZA, Yp, put, lk, Od.v, Za, Zg, Zo, ax, Yg, Yh, Yd, ay, eqk, DV.isU, DV.cells, ae, ZO, Yb, ZP, Zr, splice, DV.one, ZR, af, ZY, eqs]; exact ⟨rfl, rfl⟩)] | rw [Yu (by simp [lk, Za, Od.v]; exact rfl)] | rw [Yn]))
 (try simp only [Za, List.map_cons, List.map_nil, lk, reduceIte, Nat.reduceEqDiff, Nat.zero_ne_one, Nat.one_ne_zero])
 rw [hc]
 (repeat (first | rw [ZM] | rw [Zq (by simp [ZN, ZG, ZF, ZH, Zt, Zh, Zp, Zk, Zm, Ze, Zf, Zl, Zu, Zv, ZI, ↓Zj, Zs, Zi, ZE, Zy, Zx, ZX, ZA, Yp, put, lk, Od.v, Za, Zg, Zo, ax, Yg, Yh, Yd, ay, eqk, DV.isU, DV.cells, ae, ZO, Yb, ZP, Zr, splice, DV.one, ZR, af, ZY, eqs]; exact ⟨rfl, rfl⟩)] | rw [Yk (by simp [lk, Za, Od.v]; exact rfl)] | rw [Zy] | rw [Zx] | rw [ZZ] | rw [Ys] | rw [Yc] | rw [Yr] | rw [Yf] | rw [Ye] | rw [ZV] | rw [ZT] | rw [ZU] | rw [ZL (by decide)] | rw [ZQ] | rw [ZJ] | rw [ZK] | rw [ZC (by decide)] | rw [Yv] | rw [Yt (by simp [ZN, ZG, ZF, ZH, Zt, Zh, Zp, Zk, Zm, Ze, Zf, Zl, Zu, Zv, ZI, ↓Zj, Zs, Zi, ZE, Zy, Zx, ZX, ZA, Yp, put, lk, Od.v, Za, Zg, Zo, ax, Yg, Yh, Yd, ay, eqk, DV.isU, DV.cells, ae, ZO, Yb, ZP, Zr, splice, DV.one, ZR, af, ZY, eqs]; exact ⟨rfl, rfl⟩)] | rw [Yu (by simp [lk, Za, Od.v]; exact rfl)] | rw [Yn]))
 rw [ZS]
 simp only [ZW, Option.map_some, aD]
def ph (H : Zb) (bs : List Nat) (m : Nat) (ns : Zb) : Zb := H ++ (.row 5 1 0 (bs.map bD) :: .box 68 [.row H.length 0 0 m false] :: ns)
section
variable {H ns : Zb} {bs : List Nat} {m : Nat}
theorem EA : (ph H bs m ns)[H.length + 1]? = some (.box 68 [.row H.length 0 0 m false]) := by simp [ph, ae]
theorem zD : (ph H bs m ns)[H.length]? = some (.row 5 1 0 (bs.map bD)) := by simp [ph]
theorem Nj (n : DV) : (ph H bs m (ns ++ [.box 3 [n]]))[H.length + 2 + ns.length]? = some (.box 3 [n]) := by
 rw [ph, List.getElem?_append_right (by omega), show H.length + 2 + ns.length - H.length = ns.length + 1 + 1 by omega, List.getElem?_cons_succ, List.getElem?_cons_succ, List.getElem?_append_right (by omega)]
 simp
theorem Rt (hm : bs.length = m) : vw (ph H bs m ns) 1 (.row H.length 0 0 m false) = some (bs.map bD) := by
 subst hm; simp [vw, zD, List.take_of_length_le]
theorem Rs (hm : bs.length = m) {i : Nat} (hi : i < m) (x : Nat) : stx (ph H bs m ns) 1 (.elem (.row H.length 0 0 m false) 1 i 0) (.int .u8 x) = some (ph H (bs.set i x) m ns) := by
 subst hm
 have h1 : (ph H bs bs.length ns)[H.length]? = some (.row 5 1 0 (bs.map bD)) := zD
 have h2 : (bs.map bD)[i]? = some (bD bs[i]) := by simp [List.getElem?_eq_getElem hi]
 rw [stx, if_pos (by simp [DV.cells, DV.one])]
 simp only [h1]
 rw [if_pos (by simp [hi])]
 simp only [Nat.zero_add, h2]
 simp [oA, DV.one, ph, Yb]
theorem rE : (ph H bs m ns).length = H.length + 2 + ns.length := by simp [ph]; omega
end
theorem uY {n : Nat} (h : n < 256) : IntKind.u8.wrap (n : Int) = (n : Int) := by
 simp [IntKind.wrap, IntKind.bits, IntKind.signed]
 omega
theorem QG {H ns : Zb} {bs : List Nat} {m n a k : Nat} (hm : bs.length = m) (bb : BB bs) (ha : a / 8 < m) (ha' : a < 10000000) (hk : k ≤ 62) (hn : n < 256) :
 E X 94 [.int .i64 a, .int .i64 k, .ref (H.length + 1) 0, .ref (H.length + 2 + ns.length) 0] (ph H bs m (ns ++ [.box 3 [.int .i64 n]])) = some (.tup [], ph H (setB bs a (n / 2 ^ k % 2)) m (ns ++ [.box 3 [.int .i64 n]])) := by
 obtain ⟨p, hp⟩ : ∃ p, p = a / 8 := ⟨_, rfl⟩
 obtain ⟨j, hj⟩ : ∃ j, j = a % 8 := ⟨_, rfl⟩
 obtain ⟨q, hq⟩ : ∃ q, q = n / 2 ^ k := ⟨_, rfl⟩
 obtain ⟨c, hc⟩ : ∃ c, c = q % 2 := ⟨_, rfl⟩
 have hc1 : c ≤ 1 := by omega
 have Vu : j < 8 := by omega
 have Vf : q ≤ n := by rw [hq]; exact Nat.div_le_self _ _
 have hp' : p < bs.length := by omega
 have e1 : bs.getD p 0 = bs[p] := by rw [List.getD_eq_getElem?_getD, List.getElem?_eq_getElem hp']; rfl
 have hb := bb _ (List.getElem_mem hp')
 have vX : c * 2 ^ j < 256 := by
  have : 2 ^ j ≤ 2 ^ 7 := Nat.pow_le_pow_right (by omega) (by omega)
  have : c * 2 ^ j ≤ 1 * 2 ^ 7 := Nat.mul_le_mul hc1 this
  omega
 have z8 := BU hb hc1 Vu
 have hS : setB bs a (n / 2 ^ k % 2) = bs.set p (bs[p] ||| c * 2 ^ j) := by rw [← hq, ← hc, setB, ← hp, ← hj, e1]
 rw [hS]
 have f1 := @EA H (ns ++ [.box 3 [.int .i64 n]]) bs m
 have f2 := Rt (H := H) (ns := ns ++ [.box 3 [.int .i64 n]]) hm
 have f3 := @Nj H ns bs m (.int .i64 n)
 have f4 := Rs (H := H) (ns := ns ++ [.box 3 [.int .i64 n]]) hm (i := p) (by omega) (bs[p] ||| c * 2 ^ j)
 have f5 : fin (ph H bs m (ns ++ [.box 3 [.int .i64 n]])) (ph H (bs.set p (bs[p] ||| c * 2 ^ j)) m (ns ++ [.box 3 [.int .i64 n]])) [] = _ := I1 (by rw [rE, rE])
 have z1 : IntKind.i64.wrap ((a : Int) / 8) = (p : Int) := wr
 have z2 : ((a : Int)).tmod 8 = (j : Int) := by rw [Int.tmod_eq_emod_of_nonneg (by omega)]; omega
 have z3 : ((n : Int)).fdiv (2 ^ min k IntKind.i64.bits) = (q : Int) := by
  rw [show min k IntKind.i64.bits = k from Nat.min_eq_left (by simp [IntKind.bits]; omega), show (2 : Int) ^ k = ((2 ^ k : Nat) : Int) by simp, Int.fdiv_eq_ediv_of_nonneg _ (Int.natCast_nonneg _), hq]
  rfl
 have z4 : IntKind.i64.wrap ((q % 2 ^ IntKind.i64.bits &&& 1 % 2 ^ IntKind.i64.bits : Nat) : Int) = (c : Int) := by
  rw [show 2 ^ IntKind.i64.bits = 18446744073709551616 from rfl, Nat.mod_eq_of_lt (by omega), show 1 % 18446744073709551616 = 2 ^ 1 - 1 from rfl, Nat.and_two_pow_sub_one_eq_mod, wrap64 _ (by omega) (by omega), hc]
 have z5 : IntKind.u8.wrap (c : Int) = (c : Int) := uY (by omega)
 have z6 : IntKind.u8.wrap ((c : Int) * 2 ^ min j IntKind.u8.bits) = ((c * 2 ^ j : Nat) : Int) := by
  rw [show min j IntKind.u8.bits = j from Nat.min_eq_left (by simp [IntKind.bits]; omega), show (2 : Int) ^ j = ((2 ^ j : Nat) : Int) by simp, ← Int.natCast_mul, uY vX]
 have d0 : ¬ (j : Int) < 0 := by omega
 have d1 : ¬ (k : Int) < 0 := by omega
 generalize c * 2 ^ j = cj at *
 have z7 : IntKind.u8.wrap ((bs[p] % 2 ^ IntKind.u8.bits ||| cj % 2 ^ IntKind.u8.bits : Nat) : Int) = ((bs[p] ||| cj : Nat) : Int) := by
  rw [show 2 ^ IntKind.u8.bits = 256 from rfl, Nat.mod_eq_of_lt hb, Nat.mod_eq_of_lt vX, uY z8]
 generalize ph H bs m (ns ++ [.box 3 [.int .i64 n]]) = P1 at *
 generalize bs[p] ||| cj = ob at *
 generalize ph H (bs.set p ob) m (ns ++ [.box 3 [.int .i64 n]]) = P2 at *
 rw [Zz (X := X) _ P3 _ rfl rfl]; unfold P3
 (repeat (first | rw [ZM] | rw [Zq (by simp [ZN, ZG, ZF, ZH, Zt, Zh, Zp, Zk, Zm, Ze, Zf, Zl, Zu, Zv, ZI, ↓Zj, Zs, Zi, ZE, Zy, Zx, ZX, ZA, Yp, put, lk, Od.v, Za, Zg, Zo, ax, Yg, Yh, Yd, ay, eqk, DV.isU, DV.cells, ae, ZO, Yb, ZP, Zr, splice, DV.one, ZR, af, ZY, eqs, f1, f2, f3, f4, z1, z2, z3, z4, z5, z6, z7, d0, d1, aH, hp']; exact ⟨rfl, rfl⟩)] | rw [Yk (by simp [lk, Za, Od.v, f1, f2, f3, f4, z1, z2, z3, z4, z5, z6, z7, d0, d1, aH, hp']; exact rfl)] | rw [Zy] | rw [Zx] | rw [ZZ] | rw [Ys] | rw [Yc] | rw [Yr] | rw [Yf] | rw [Ye] | rw [ZV] | rw [ZT] | rw [ZU] | rw [ZL (by decide)] | rw [ZQ] | rw [ZJ] | rw [ZK] | rw [ZC (by decide)] | rw [Yv] | rw [Yt (by simp [ZN, ZG, ZF, ZH, Zt, Zh, Zp, Zk, Zm, Ze, Zf, Zl, Zu, Zv, ZI, ↓Zj, Zs, Zi, ZE, Zy, Zx, ZX, ZA, Yp, put, lk, Od.v, Za, Zg, Zo, ax, Yg, Yh, Yd, ay, eqk, DV.isU, DV.cells, ae, ZO, Yb, ZP, Zr, splice, DV.one, ZR, af, ZY, eqs, f1, f2, f3, f4, z1, z2, z3, z4, z5, z6, z7, d0, d1, aH, hp']; exact ⟨rfl, rfl⟩)] | rw [Yu (by simp [lk, Za, Od.v, f1, f2, f3, f4, z1, z2, z3, z4, z5, z6, z7, d0, d1, aH, hp']; exact rfl)] | rw [Yn]))
 rw [ZS]
 simp only [ZW, Option.map_some, f5]
end Go.Proofs.YtmbgfbomgbdjeaaGreatDoor
namespace Go.Proofs.YtmbgfbomgbdjeaaGreatDoor
attribute [local go_sem] ZN ZG ZF ZH Zt Zh Zp Zk Zm Ze Zf Zl Zu Zv ZI Zs Zi ZE Zy Zx ZX ZA Yp put lk Od.v Za Zg Zo ax Yg Yh Yd ay eqk DV.isU DV.cells ae ZO Yb ZP Zr splice ZR af ZY eqs bJ cr bY bz cg bH bw bF bZ bA cm bE bG bC cu cw bW Yx Yy
attribute [local go_sem ↓] Zj
set_option linter.unusedVariables false
set_option linter.unusedSimpArgs false
set_option maxRecDepth 10000
theorem HP (w : Nat) (l : List Nat) (i : Nat) (bs : List Nat) (h : i < l.length) : iU w (l.take (i + 1)) 0 bs = oO w i l[i] w (iU w (l.take i) 0 bs) := by
 rw [← List.take_append_getElem h, zA]
 congr 1
 simp; omega
theorem Nk (H : Zb) (bs : List Nat) (m : Nat) (ns l : Zb) : ph H bs m ns ++ l = ph H bs m (ns ++ l) := by simp [ph]
theorem NE {H : Zb} {L : DV} {l : List Nat} {w m : Nat} (hL : ∀ G, vw (H ++ G) 1 L = some (l.map iD)) (hw : w ≤ 62) (hb : l.length ≤ 4096) (hl : ∀ n ∈ l, n < 256 ∧ wN n ≤ w) (hm : (l.length * w + 7) / 8 = m) {B0 : List Nat} (hB : B0.length = m) (bB : BB B0) :
 ∀ (k i : Nat) (ns : Zb), l.length - i ≤ k → i ≤ l.length → ∃ y ex UU, C X (.loop rR) [(1, .int .i64 w), (6, .ref (H.length + 1) 0), (22, L), (23, .int .i64 l.length), (24, .int .i64 i)] (ph H (iU w (l.take i) 0 B0) m ns) =
  some (.exit 1, (1, .int .i64 w) :: (6, .ref (H.length + 1) 0) :: (22, L) :: (23, .int .i64 l.length) :: (24, y) :: ex, ph H (iU w l 0 B0) m UU) := by
 intro k
 induction k with
 | zero =>
  intro i ns hk hi
  obtain rfl : i = l.length := by omega
  rw [List.take_length]
  refine ⟨.int .i64 l.length, [(25, .bool false)], ns, ?_⟩
  generalize ph H (iU w l 0 B0) m ns = P
  rw [Zc]
  unfold rR
  refine rn trivial ?_
  rw [Zw]
  simp [Za, lk]
 | succ k ih =>
  intro i ns hk hi
  by_cases c : i < l.length
  ·obtain ⟨I, hI⟩ : ∃ I, I = i + 1 := ⟨_, rfl⟩
   have z1 : IntKind.i64.wrap ((i : Int) + 1) = (I : Int) := wr
   obtain ⟨hn, hwn⟩ := hl _ (List.getElem_mem c)
   have ht := HP w l i B0 c
   have Fy : (iU w (l.take i) 0 B0).length = m := by rw [xe, hB]
   have hbb := zB w (l.take i) 0 bB
   have aA : l[i]? = some l[i] := List.getElem?_eq_getElem c
   have hpl : i * w + w ≤ l.length * w := by rw [← Nat.succ_mul]; exact Nat.mul_le_mul_right w c
   have Vp : l.length * w ≤ 4096 * 62 := Nat.mul_le_mul hb hw
   rw [hI.symm] at ht
   have eY := ih I (ns ++ [.box 3 [.int .i64 l[i]]]) (by omega) (by omega)
   rw [ht] at eY
   generalize iU w (l.take i) 0 B0 = bs at *
   obtain ⟨n, hnn⟩ : ∃ n, n = l[i] := ⟨_, rfl⟩
   rw [← hnn] at hn hwn eY aA
   have iZ := JX (f := 94) (w := w) (i := i) (cap := [.ref (H.length + 1) 0, .ref (H.length + 2 + ns.length) 0]) (S := fun k => ph H (oO w i n k bs) m (ns ++ [.box 3 [.int .i64 n]])) hw (by omega)
    (fun k hk => QG (by rw [pB]; exact Fy) (zC w i n k hbb) (by omega) (by omega) (by omega) hn) (by rw [rE, rE])
   simp only [oO] at iZ
   have Uk := JY n hn
   have hv : ∀ G, vw (ph H bs m ns ++ G) 1 L = some (l.map iD) := fun G => by rw [ph, List.append_assoc]; exact hL _
   have hv0 : vw (ph H bs m ns) 1 L = some (l.map iD) := by have := hv []; rwa [List.append_nil] at this
   have hq : (ph H bs m ns).length = H.length + 2 + ns.length := rE
   have ha : ∀ x, ph H bs m ns ++ [x] = ph H bs m (ns ++ [x]) := fun x => Nk _ _ _ _ _
   have hg := @Nj H ns bs m (.int .i64 n)
   have hs : ∀ x y, (ph H bs m (ns ++ [x])).set (H.length + 2 + ns.length) y = ph H bs m (ns ++ [y]) := fun x y => by
    rw [← ha, ← ha, ← hq, ZP]; rfl
   have hg0 : ∀ x, (ph H bs m (ns ++ [x]))[H.length + 2 + ns.length]? = some x := fun x => by
    rw [← ha, ← hq, ZO]; rfl
   have Dk := hnn.symm
   have d0 : ¬ (n : Int) < 0 := by omega
   have d1 : ¬ (w : Int) < (wN n : Int) := by omega
   have d2 : ¬ w < wN n := by omega
   have hc : C X rR [(1, .int .i64 w), (6, .ref (H.length + 1) 0), (22, L), (23, .int .i64 l.length), (24, .int .i64 i)] (ph H bs m ns) = some (.norm, [(1, .int .i64 w), (6, .ref (H.length + 1) 0), (22, L), (23, .int .i64 l.length), (24, .int .i64 I)], ph H (oO w i n w bs) m (ns ++ [.box 3 [.int .i64 n]])) := by
    clear ih eY hL hl hm hB bB ht
    generalize wN n = wn at *
    generalize ph H (oO w i n w bs) m (ns ++ [.box 3 [.int .i64 n]]) = P2 at *
    generalize H.length + 2 + ns.length = qq at *
    unfold rR
    refine ah (mA @c @z1 @hv0 @hv @hq @ha @hs @hg0 @Uk @iZ @d0 @d1 @d2 @aA @Dk) ?_
    simp [Za, lk]
   rw [Zc, hc, ZB]
   exact eY
  ·exact ih i ns (by omega) hi
theorem Q0 {H : Zb} {L : DV} {l : List Nat} {w : Nat} (hL : ∀ G, vw (H ++ G) 1 L = some (l.map iD)) (hw : w ≤ 62) (hb : l.length ≤ 4096) (hl : ∀ n ∈ l, n < 256 ∧ wN n ≤ w) :
 E X 60 [L, .int .i64 w] H = some (.tup [.list 1 ((pack l w).map bD) false, .int .i64 0], H) := by
 have kr := CU w hw H
 have gT := CS l.length w (by omega) hw H
 have hv : vw H 1 L = some (l.map iD) := by have := hL []; rwa [List.append_nil] at this
 obtain ⟨y, ex, ns, hc⟩ := NE hL hw hb hl rfl (B0 := List.replicate ((l.length * w + 7) / 8) 0) (by simp) (fun x hx => by rw [List.eq_of_mem_replicate hx]; decide) l.length 0 [] (by omega) (by omega)
 have hP : ph H (iU w (l.take 0) 0 (List.replicate ((l.length * w + 7) / 8) 0)) ((l.length * w + 7) / 8) [] = H ++ [.row 5 1 0 (List.replicate ((l.length * w + 7) / 8) (.int .u8 0)), .box 68 [.row H.length 0 0 ((l.length * w + 7) / 8) false]] := by
  simp [ph, iU]
 rw [hP, show ((0 : Nat) : Int) = 0 from rfl] at hc
 have hpl := gA l w
 have Vk : iU w l 0 (List.replicate ((l.length * w + 7) / 8) 0) = pack l w := rfl
 rw [Vk] at hc
 generalize pack l w = pk at *
 have Vp : l.length * w ≤ 4096 * 62 := Nat.mul_le_mul hb hw
 have Vo : (l.length * w + 7) / 8 ≤ 100000 := by omega
 generalize (l.length * w + 7) / 8 = m at *
 have m1 : (m : Int) ≤ 140737488355328 := by omega
 have m0 : (0 : Int) ≤ (m : Int) := by omega
 have d0 : ¬ (4096 : Int) < (l.length : Int) := by omega
 have d0' : ¬ 4096 < l.length := by omega
 have hW : Wc 1 (.int .u8 0) := by simp [Wc, DV.cells, DV.one]
 rw [Zz (X := X) _ Qf _ rfl rfl]; unfold Qf
 refine rn (gI @kr @gT @hv @hL @m0 @m1 @d0 @d0' @hW) ?_
 refine aj ?_
 rw [hc]
 have f1 := @EA H ns pk m
 have f2 := @zD H ns pk m
 have f3 : (ph H pk m ns).take H.length = H := by simp [ph]
 have f4 : ∀ x ∈ pk.map bD, Nr x := fun x hx => by
  obtain ⟨n, _, rfl⟩ := List.mem_map.1 hx
  exact .int _ _
 have f5 : 0 + m ≤ (pk.map bD).length := by simp; omega
 have f6 : (pk.map bD).take m = pk.map bD := List.take_of_length_le (by simp; omega)
 refine rn @f1 ?_
 simp [Zn, ZS, ZW, go_sem, fin, aO, aJ, bq, cZ, d8, f1, f2, f3, hpl]
 rw [if_pos ⟨rfl, f5, f4⟩]
 simp only [f6]
theorem wV : wN 0 = 0 := rfl
theorem po (n : Nat) (h : 0 < n) : wN n = wN (n / 2) + 1 := by
 unfold wN Go.Sort.bitsLen
 rw [if_neg (by omega), Nat.log2_def]
 by_cases c : 2 ≤ n
 ·rw [if_pos c, if_neg (by omega)]
 ·rw [if_neg c, if_pos (by omega)]
theorem Nu (h : Zb) : ∀ (n a : Nat), n + a ≤ 1000000 → ∃ y ex, C X (.loop nU) [(3, .int .i64 a), (4, .int .i64 n)] h = some (.exit 0, (3, .int .i64 (a + wN n : Nat)) :: (4, y) :: ex, h) := by
 intro n
 induction n using Nat.strongRecOn with
 | _ n ih =>
  intro a hb
  rcases Nat.eq_zero_or_pos n with rfl | hp
  ·refine ⟨.int .i64 0, [(7, .bool false)], ?_⟩
   rw [wV, Nat.add_zero]
   rw [Zc]
   unfold nU
   refine rn trivial ?_
   rw [Zw]
   simp [Za, lk]
  ·obtain ⟨I, hI⟩ : ∃ I, I = a + 1 := ⟨_, rfl⟩
   have z1 : IntKind.i64.wrap ((a : Int) + 1) = (I : Int) := wr
   obtain ⟨m, hm⟩ : ∃ m, m = n / 2 := ⟨_, rfl⟩
   have z2 : IntKind.i64.wrap ((n : Int) / 2) = (m : Int) := wr
   have p1 : (0 : Int) < (n : Int) := by omega
   obtain ⟨y, ex, hc⟩ := ih m (by omega) I (by omega)
   refine ⟨y, ex, ?_⟩
   have hs : C X nU [(3, .int .i64 a), (4, .int .i64 n)] h = some (.norm, [(3, .int .i64 I), (4, .int .i64 m)], h) := by
    clear ih hc
    unfold nU
    refine rn (cP @p1 @hp @z1 @z2) ?_
    simp [Za, lk]
   rw [Zc, hs, ZB, hc, po n hp, ← hm, hI]
   have : a + 1 + wN m = a + (wN m + 1) := by omega
   rw [this]
theorem JW (n : Nat) (hn : n ≤ 100000) (h : Zb) : E X 96 [.int .i64 n] h = some (.int .i64 (wN n : Nat), h) := by
 obtain ⟨y, ex, hc⟩ := Nu h n 0 (by omega)
 rw [Nat.zero_add, show ((0 : Nat) : Int) = 0 from rfl] at hc
 generalize wN n = w at *
 rw [Zz (X := X) _ Gx _ rfl rfl]; unfold Gx
 refine rn trivial ?_
 refine aj ?_
 rw [hc]
 refine rn trivial ?_
 exact re trivial
theorem Mq (h : Zb) : E X 96 [.int .i64 (-1)] h = some (.int .i64 0, h) := by
 have hc : C X (.loop nU) [(3, .int .i64 0), (4, .int .i64 (-1))] h = some (.exit 0, [(3, .int .i64 0), (4, .int .i64 (-1)), (7, .bool false)], h) := by
  rw [Zc]
  unfold nU
  refine rn trivial ?_
  rw [Zw]
  simp [Za, lk]
 rw [Zz (X := X) _ Gx _ rfl rfl]; unfold Gx
 refine rn trivial ?_
 refine aj ?_
 rw [hc]
 refine rn trivial ?_
 exact re trivial
theorem QY (n : Nat) (hn : n ≤ 100000) (h : Zb) : E X 65 [.int .i64 n] h = some (.int .i64 (wC n : Nat), h) := by
 rcases Nat.eq_zero_or_pos n with rfl | hp
 ·have e := Mq h
  have z : IntKind.i64.wrap (-1) = -1 := by rfl
  have b0 : wC 0 = 0 := rfl
  rw [b0]
  rw [Zz (X := X) _ GI _ rfl rfl]; unfold GI; exact rg (aL @e @z)
 ·obtain ⟨k, hk⟩ : ∃ k, k = n - 1 := ⟨_, rfl⟩
  have e := JW k (by omega) h
  have z : IntKind.i64.wrap ((n : Int) - 1) = (k : Int) := wr
  have b0 : wC n = wN k := by rw [hk]; rfl
  rw [b0]
  rw [Zz (X := X) _ GI _ rfl rfl]; unfold GI; exact rg (aL @e @z)
theorem Nt {H : Zb} (n w : Nat) (hw : w ≤ 62) (hn : n ≤ 1000000) :
 ∀ (m k : Nat) (o : DV) (h : Zb), w - k ≤ m → k ≤ w → lq h H o (eZ n k) → ∃ x o' h' y ex, C X (.loop rI) [(0, .int .i64 (n / 2 ^ k : Nat)), (1, .int .i64 w), (5, o), (6, .int .i64 k)] h = some (.exit 0, (0, x) :: (1, .int .i64 w) :: (5, o') :: (6, y) :: ex, h') ∧ lq h' H o' (eZ n w) := by
 intro m
 induction m with
 | zero =>
  intro k o h hm hk hM
  obtain rfl : k = w := by omega
  refine ⟨.int .i64 (n / 2 ^ k : Nat), o, h, .int .i64 k, [(9, .bool false)], ?_, hM⟩
  rw [Zc]
  generalize n / 2 ^ k = q
  unfold rI
  refine rn trivial ?_
  rw [Zw]
  simp [Za, lk]
 | succ m ih =>
  intro k o h hm hk hM
  by_cases c : k < w
  ·obtain ⟨K, hK⟩ : ∃ K, K = k + 1 := ⟨_, rfl⟩
   have z1 : IntKind.i64.wrap ((k : Int) + 1) = (K : Int) := wr
   have Aa : eZ n K = eZ n k ++ [n / 2 ^ k % 2] := by rw [hK]; simp [eZ, List.range_succ]
   have hdiv : n / 2 ^ K = n / 2 ^ k / 2 := by rw [hK, Nat.pow_succ, Nat.div_div_eq_div_mul]
   have Vf : n / 2 ^ k ≤ n := Nat.div_le_self _ _
   obtain ⟨o2, h2, ha, O4⟩ := hM.app (by rw [kP]; omega) (n / 2 ^ k % 2)
   rw [← Aa] at O4
   have hv := hM.vw []
   rw [List.append_nil] at hv
   have eY := ih K o2 h2 (by omega) (by omega) O4
   rw [hdiv] at eY
   obtain ⟨x, o', h', y, ex, hc, SE⟩ := eY
   refine ⟨x, o', h', y, ex, ?_, SE⟩
   generalize n / 2 ^ k = q at *
   obtain ⟨r, hr⟩ : ∃ r, r = q % 2 := ⟨_, rfl⟩
   obtain ⟨q2, hq2⟩ : ∃ q2, q2 = q / 2 := ⟨_, rfl⟩
   rw [← hr] at ha
   rw [← hq2] at hc
   have z2 : ((q : Int)).tmod 2 = (r : Int) := by rw [Int.tmod_eq_emod_of_nonneg (by omega)]; omega
   have z3 : IntKind.i64.wrap ((q : Int) / 2) = (q2 : Int) := wr
   have y1 : ∀ (a : Int) h, bL [.int .i64 a] h = some ([.int .i64 a], h) := fun _ _ => rfl
   have y2 : ∀ a, Wc 1 (.int .i64 a) := fun a => by simp [Wc, DV.cells, DV.one]
   have y3 : ∀ a, Nr (.int .i64 a) := fun a => .int _ _
   have y4 : ∀ (a : Int) h, aM h 1 (.list 1 [.int .i64 a] true) = some [.int .i64 a] := fun _ _ => rfl
   have hs : C X rI [(0, .int .i64 q), (1, .int .i64 w), (5, o), (6, .int .i64 k)] h = some (.norm, [(0, .int .i64 q2), (1, .int .i64 w), (5, o2), (6, .int .i64 K)], h2) := by
    clear ih hc hM O4 SE Aa hdiv
    generalize eZ n k = nk at *
    unfold rI
    refine rn (dL @c @z1 @z2 @z3 @y1 @y2 @y3 @y4 @hv @ha) ?_
    simp [Za, lk]
   rw [Zc, hs, ZB]
   exact hc
  ·exact ih k o h (by omega) hk hM
theorem QF {H : Zb} (n w : Nat) (hw : w ≤ 62) (hn : n ≤ 1000000) : ∃ d, E X 97 [.int .i64 n, .int .i64 w] H = some (d, H) ∧ LD d (eZ n w) := by
 obtain ⟨x, o', h', y, ex, hc, hM⟩ := Nt (H := H) n w hw hn w 0 .nils H (by omega) (by omega) (.inl ⟨rfl, rfl, rfl⟩)
 obtain ⟨d, hf, hD⟩ := F7 hM
 refine ⟨d, ?_, hD⟩
 rw [Nat.pow_zero, Nat.div_one, show ((0 : Nat) : Int) = 0 from rfl] at hc
 rw [Zz (X := X) _ PY _ rfl rfl]; unfold PY
 refine rn trivial ?_
 refine aj ?_
 rw [hc]
 refine rn trivial ?_
 simp only [Zn, ZW, lk, Za, List.map_cons, List.map_nil, reduceIte, Option.map_some, hf]
theorem BH {l : List Nat} (h : ∀ b ∈ l, b ≤ 1) {k : Nat} (hl : l.length ≤ k) : dI l < 2 ^ k := Nat.lt_of_lt_of_le (wW l h) (Nat.pow_le_pow_right (by omega) hl)
theorem Ns {h : Zb} {L : DV} {l : List Nat} (hL : vw h 1 L = some (l.map iD)) (hl : ∀ b ∈ l, b ≤ 1) (hb : l.length ≤ 61) :
 ∀ (j : Nat), j ≤ l.length → ∃ y ex, C X (.loop rH) [(0, L), (3, .int .i64 (dI (l.drop j) : Nat)), (4, .int .i64 ((j : Int) - 1))] h = some (.exit 0, (0, L) :: (3, .int .i64 (dI l : Nat)) :: (4, y) :: ex, h) := by
 intro j
 induction j with
 | zero =>
  intro _
  refine ⟨.int .i64 (-1), [(9, .bool false)], ?_⟩
  rw [List.drop_zero, show ((0 : Nat) : Int) - 1 = -1 from rfl]
  rw [Zc]
  generalize dI l = v
  unfold rH
  refine rn trivial ?_
  rw [Zw]
  simp [Za, lk]
 | succ j ih =>
  intro hj
  have c : j < l.length := by omega
  have hd : l.drop j = l[j] :: l.drop (j + 1) := by rw [List.drop_eq_getElem_cons c]
  have hv : dI (l.drop j) = 2 * dI (l.drop (j + 1)) + l[j] := by rw [hd, dI]
  have h1 : dI (l.drop j) < 2 ^ 61 := BH (fun b hb => hl b (List.mem_of_mem_drop hb)) (by rw [List.length_drop]; omega)
  have hle := hl _ (List.getElem_mem c)
  obtain ⟨y, ex, hc⟩ := ih (by omega)
  refine ⟨y, ex, ?_⟩
  rw [hv] at hc h1
  generalize dI (l.drop (j + 1)) = v at *
  obtain ⟨x, hx⟩ : ∃ x, x = l[j] := ⟨_, rfl⟩
  rw [← hx] at hc hv h1 hle
  have hx' := hx.symm
  obtain ⟨u, hu⟩ : ∃ u, u = 2 * v := ⟨_, rfl⟩
  rw [← hu] at hc h1
  obtain ⟨t, ht⟩ : ∃ t, t = u + x := ⟨_, rfl⟩
  rw [← ht] at hc h1
  have z1 : IntKind.i64.wrap (2 * (v : Int)) = (u : Int) := wr
  have z2 : IntKind.i64.wrap ((u : Int) + (x : Int)) = (t : Int) := wr
  obtain ⟨J, hJ⟩ : ∃ J : Int, J = (j : Int) - 1 := ⟨_, rfl⟩
  have z3 : IntKind.i64.wrap ((j : Int) - 1) = J := wr
  have e1 : ((j + 1 : Nat) : Int) - 1 = (j : Int) := by omega
  rw [e1]
  rw [← hJ] at hc
  have hs : C X rH [(0, L), (3, .int .i64 v), (4, .int .i64 j)] h = some (.norm, [(0, L), (3, .int .i64 t), (4, .int .i64 J)], h) := by
   clear ih hc hv hd hl
   unfold rH
   refine ah (gJ @c @z1 @z2 @z3 @hL @hx') ?_
   simp [Za, lk]
  rw [Zc, hs, ZB]
  exact hc
theorem QE {h : Zb} {L : DV} {l : List Nat} (hL : vw h 1 L = some (l.map iD)) (hl : ∀ b ∈ l, b ≤ 1) (hb : l.length ≤ 61) : E X 98 [L] h = some (.int .i64 (dI l : Nat), h) := by
 obtain ⟨y, ex, hc⟩ := Ns hL hl hb l.length (Nat.le_refl _)
 rw [List.drop_length, show ((dI [] : Nat) : Int) = 0 from rfl] at hc
 obtain ⟨J, hJ⟩ : ∃ J : Int, J = (l.length : Int) - 1 := ⟨_, rfl⟩
 have z3 : IntKind.i64.wrap ((l.length : Int) - 1) = J := wr
 rw [← hJ] at hc
 generalize dI l = v at *
 rw [Zz (X := X) _ PX _ rfl rfl]; unfold PX
 refine rn (aL @hL @z3) ?_
 refine aj ?_
 rw [hc]
 refine rn trivial ?_
 exact re trivial
def Grow (T : Nat) (f : Nat → DV) (H h : Zb) (d : DV) (ws : List Nat) : Prop :=
 h.take H.length = H ∧ ((d = .nils ∧ ws = []) ∨ ∃ g o, d = .row o g 0 ws.length false ∧ H.length ≤ o ∧ h[o]? = some (.row T 1 g (ws.map f)))
section
variable {T : Nat} {f : Nat → DV} {H h : Zb} {d : DV} {ws : List Nat}
theorem Grow.zero : Grow T f H H .nils [] := ⟨List.take_length, .inl ⟨rfl, rfl⟩⟩
theorem iN {H h : Zb} (ht : h.take H.length = H) : H.length ≤ h.length := by
 have := congrArg List.length ht
 rw [List.length_take] at this; omega
theorem Grow.ext (hg : Grow T f H h d ws) (G : Zb) : Grow T f H (h ++ G) d ws := by
 obtain ⟨ht, hr⟩ := hg
 refine ⟨?_, ?_⟩
 ·rw [List.take_append_of_le_length (iN ht)]; exact ht
 ·rcases hr with hr | ⟨g, o, h1, h2, h3⟩
  ·exact .inl hr
  ·exact .inr ⟨g, o, h1, h2, by rw [List.getElem?_append_left (List.getElem?_eq_some_iff.1 h3).1]; exact h3⟩
theorem Grow.keep (hg : Grow T f H h d ws) {h' : Zb} (ht : h'.take h.length = h) : Grow T f H h' d ws := by
 have e : h' = h ++ h'.drop h.length := by
  have := List.take_append_drop h.length h'
  rw [ht] at this; exact this.symm
 rw [e]; exact hg.ext _
theorem Grow.vw (hg : Grow T f H h d ws) (G : Zb) : vw (h ++ G) 1 d = some (ws.map f) := by
 rcases (hg.ext G).2 with ⟨rfl, rfl⟩ | ⟨g, o, rfl, h2, h3⟩
 ·rfl
 ·simp [Go.Proofs.YtmbgfbomgbdjeaaGreatDoor.vw, h3, List.take_of_length_le]
theorem Grow.vw0 (hg : Grow T f H h d ws) : Go.Proofs.YtmbgfbomgbdjeaaGreatDoor.vw h 1 d = some (ws.map f) := by
 have := hg.vw []; rwa [List.append_nil] at this
theorem Grow.app (hg : Grow T f H h d ws) (b : Nat) (ys : List Nat) (hb : (ws.length + ys.length) * b ≤ 140737488355328) : ∃ d' h', aW h T 1 b d (ws.map f) (ys.map f) = some (d', h') ∧ Grow T f H h' d' (ws ++ ys) := by
 by_cases hy : ys = []
 ·subst hy
  exact ⟨d, h, by simp [aW], by rw [List.append_nil]; exact hg⟩
 ·have hy' : ys.map f ≠ [] := by simpa using hy
  have hle : ((ws.map f).length + (ys.map f).length) * b ≤ 140737488355328 := by simpa using hb
  obtain ⟨ht, hr⟩ := hg
  rcases hr with ⟨rfl, rfl⟩ | ⟨g, o, rfl, h2, h3⟩
  ·refine ⟨.row h.length 0 0 ys.length false, h ++ [.row T 1 0 (ys.map f)], ?_, ?_, .inr ⟨0, h.length, by simp, iN ht, by simp⟩⟩
   ·simp only [aW, if_neg hy', List.length_map]
    rw [if_pos hb]
   ·rw [List.take_append_of_le_length (iN ht)]; exact ht
  ·have hlt := (List.getElem?_eq_some_iff.1 h3).1
   refine ⟨.row o (g + 1) 0 (ws.length + ys.length) false, h.set o (.row T 1 (g + 1) (ws.map f ++ ys.map f)), ?_, ?_, .inr ⟨g + 1, o, by simp, h2, ?_⟩⟩
   ·simp only [aW, if_neg hy', List.length_map, h3]
    rw [if_pos hb]
    simp
   ·rw [List.take_set_of_le h2]; exact ht
   ·rw [List.getElem?_set_self hlt, List.map_append]
theorem Ct (hg : Grow T f H h d ws) (hf : ∀ x, Nr (f x)) (k : Int) : ∃ R, fin H h [d, .int .i64 k] = (.tup [R, .int .i64 k], H) ∧ ((R = .nils ∧ ws = []) ∨ R = .list 1 (ws.map f) false) := by
 obtain ⟨ht, hr⟩ := hg
 rcases hr with ⟨rfl, rfl⟩ | ⟨g, o, rfl, h2, h3⟩
 ·refine ⟨.nils, ?_, .inl ⟨rfl, rfl⟩⟩
  simp only [fin]
  rw [if_pos ht]
  rfl
 ·refine ⟨.list 1 (ws.map f) false, ?_, .inr rfl⟩
  simp only [fin]
  rw [if_pos ht]
  have hN : ∀ x ∈ ws.map f, Nr x := fun x hx => by
   obtain ⟨n, _, rfl⟩ := List.mem_map.1 hx
   exact hf n
  simp only [bq, aJ, aO]
  rw [if_neg (by omega), h3]
  simp only
  rw [if_pos ⟨rfl, by simp, hN⟩]
  simp [List.take_of_length_le]
end
theorem G7 (w : Nat) (l : List Nat) (i : Nat) (h : i < l.length) : eA (l.take (i + 1)) w = eA (l.take i) w ++ eZ l[i] w := by
 unfold eA
 rw [← List.take_append_getElem h, List.flatMap_append]
 simp only [List.flatMap_cons, List.flatMap_nil, List.append_nil]
theorem NC {H : Zb} {L : DV} {l : List Nat} {w : Nat} (hL : ∀ h : Zb, h.take H.length = H → vw h 1 L = some (l.map iD)) (hw : w ≤ 62) (hb : l.length ≤ 4096) (hl : ∀ n ∈ l, n ≤ 100000 ∧ wN n ≤ w) :
 ∀ (k i : Nat) (o : DV) (h : Zb), l.length - i ≤ k → i ≤ l.length → Grow 3 iD H h o (eA (l.take i) w) → ∃ y o' h' ex, C X (.loop nX) [(0, L), (1, .int .i64 w), (6, o), (7, .int .i64 i)] h = some (.exit 0, (0, L) :: (1, .int .i64 w) :: (6, o') :: (7, y) :: ex, h') ∧ Grow 3 iD H h' o' (eA l w) := by
 intro k
 induction k with
 | zero =>
  intro i o h hk hi hG
  obtain rfl : i = l.length := by omega
  rw [List.take_length] at hG
  have hv := hL h hG.1
  refine ⟨.int .i64 l.length, o, h, [(23, .bool false)], ?_, hG⟩
  rw [Zc]
  unfold nX
  refine rn @hv ?_
  rw [Zw]
  simp [Za, lk]
 | succ k ih =>
  intro i o h hk hi hG
  by_cases c : i < l.length
  ·obtain ⟨I, hI⟩ : ∃ I, I = i + 1 := ⟨_, rfl⟩
   have z1 : IntKind.i64.wrap ((i : Int) + 1) = (I : Int) := wr
   obtain ⟨hn, hwn⟩ := hl _ (List.getElem_mem c)
   have hat := G7 w l i c
   rw [← hI] at hat
   obtain ⟨n, hnn⟩ : ∃ n, n = l[i] := ⟨_, rfl⟩
   rw [← hnn] at hn hwn hat
   have Dk := hnn.symm
   have aA : l[i]? = some n := by rw [List.getElem?_eq_getElem c, hnn]
   have hlen : (eA (l.take i) w).length ≤ 4096 * 62 := by
    rw [oG]
    exact Nat.mul_le_mul (by rw [List.length_take]; omega) hw
   have PI := fun h => JW n hn h
   have hv := hL h hG.1
   have vK := hG.vw0
   have d0 : ¬ (n : Int) < 0 := by omega
   have d1 : ¬ (w : Int) < (wN n : Int) := by omega
   have d2 : ¬ w < wN n := by omega
   obtain ⟨d, PG, hD⟩ := QF (H := h) n w hw (by omega)
   rcases hD with ⟨rfl, hnil⟩ | rfl
   ·have uk : Grow 3 iD H h o (eA (l.take I) w) := by rw [hat, hnil, List.append_nil]; exact hG
    have s1 : ∀ h, aM h 1 .nils = some [] := fun _ => rfl
    have a1 : ∀ xs, aW h 3 1 8 o xs [] = some (o, h) := fun xs => by simp [aW]
    have hs : C X nX [(0, L), (1, .int .i64 w), (6, o), (7, .int .i64 i)] h = some (.norm, [(0, L), (1, .int .i64 w), (6, o), (7, .int .i64 I)], h) := by
     clear ih hL hl hG uk hat hnil
     generalize wN n = wn at *
     generalize eA (l.take i) w = aw at *
     unfold nX
     refine ah (jD @c @z1 @hv @vK @aA @Dk @PI @PG @d0 @d1 @d2 @s1 @a1) ?_
     simp [Za, lk]
    rw [Zc, hs, ZB]
    exact ih I o h (by omega) (by omega) uk
   ·have ei := hG.ext [.row 3 1 0 ((eZ n w).map iD)]
    obtain ⟨o', h', ha, uk⟩ := ei.app 8 (eZ n w) (by rw [kP]; omega)
    rw [← hat] at uk
    have hw2 := hG.vw [.row 3 1 0 ((eZ n w).map iD)]
    have vL : vw (h ++ [.row 3 1 0 ((eZ n w).map iD)]) 1 L = some (l.map iD) := hL _ ei.1
    have s1 : aM (h ++ [.row 3 1 0 ((eZ n w).map iD)]) 1 (.row h.length 0 0 (eZ n w).length false) = some ((eZ n w).map iD) := by
     simp [aM, vw, List.take_of_length_le]
    have hs : C X nX [(0, L), (1, .int .i64 w), (6, o), (7, .int .i64 i)] h = some (.norm, [(0, L), (1, .int .i64 w), (6, o'), (7, .int .i64 I)], h') := by
     clear ih hL hl hG uk hat ei
     generalize wN n = wn at *
     generalize eA (l.take i) w = aw at *
     generalize eZ n w = nw at *
     unfold nX
     refine ah (mA @c @z1 @hv @vK @aA @Dk @PI @PG @d0 @d1 @d2 @vL @hw2 @s1 @ha) ?_
     simp [Za, lk]
    rw [Zc, hs, ZB]
    exact ih I o' h' (by omega) (by omega) uk
  ·exact ih i o h (by omega) hi hG
theorem Lp {H : Zb} :
 ∀ (m : Nat) (a : List Nat) (o : DV) (h : Zb) (e : Env), lk e 6 = o → (8 - a.length % 8) % 8 = m → a.length ≤ 1000000 → Grow 3 iD H h o a → ∃ o' h' ex, C X (.loop rP) e h = some (.exit 2, (6, o') :: ex, h') ∧ Grow 3 iD H h' o' (a ++ List.replicate m 0) := by
 intro m
 induction m with
 | zero =>
  intro a o h e he hm hb hG
  have h8 : ((a.length : Int)).tmod 8 = 0 := by rw [Int.tmod_eq_emod_of_nonneg (by omega)]; omega
  have hv := hG.vw0
  refine ⟨o, h, [(52, .bool false)], ?_, by simpa using hG⟩
  rw [Zc]
  unfold rP
  refine rn (cH @hv @h8 @he) ?_
  rw [Zw]
  simp [Za, lk, he]
 | succ m ih =>
  intro a o h e he hm hb hG
  obtain ⟨r, hr⟩ : ∃ r, r = a.length % 8 := ⟨_, rfl⟩
  have h8 : ((a.length : Int)).tmod 8 = (r : Int) := by rw [Int.tmod_eq_emod_of_nonneg (by omega)]; omega
  have hr0 : 0 < r := by omega
  have hr1 : (0 : Int) < (r : Int) := by omega
  have hv := hG.vw0
  obtain ⟨o2, h2, ha, ei⟩ := hG.app 8 [0] (by simp; omega)
  have ha : aW h 3 1 8 o (a.map iD) [.int .i64 0] = some (o2, h2) := ha
  obtain ⟨o', h', ex, hc, uk⟩ := ih (a ++ [0]) o2 h2 [(6, o2)] rfl (by simp; omega) (by simp; omega) ei
  rw [List.append_assoc] at uk
  refine ⟨o', h', ex, ?_, uk⟩
  have y1 : ∀ (a : Int) h, bL [.int .i64 a] h = some ([.int .i64 a], h) := fun _ _ => rfl
  have y2 : ∀ a, Wc 1 (.int .i64 a) := fun a => by simp [Wc, DV.cells, DV.one]
  have y3 : ∀ a, Nr (.int .i64 a) := fun a => .int _ _
  have y4 : ∀ (a : Int) h, aM h 1 (.list 1 [.int .i64 a] true) = some [.int .i64 a] := fun _ _ => rfl
  have hs : C X rP e h = some (.norm, [(6, o2)], h2) := by
   clear ih hc hG uk ei hm
   unfold rP
   refine rn (dL @hv @he @h8 @hr0 @hr1 @y1 @y2 @y3 @y4 @ha) ?_
   simp [Za, lk]
  rw [Zc, hs, ZB]
  exact hc
def kD (a : List Nat) (n : Nat) : List Nat := (List.range n).map fun p => dI ((a.drop (8 * p)).take 8)
theorem Lm {H Ha : Zb} {A : DV} {a : List Nat} (hA : Grow 3 iD H Ha A a) {n : Nat} (h8 : a.length = 8 * n) (hb : a.length ≤ 1000000) (hl : ∀ b ∈ a, b ≤ 1) :
 ∀ (k p : Nat) (o : DV) (h : Zb), n - p ≤ k → p ≤ n → Grow 5 bD Ha h o (kD a p) → ∃ y o' h' ex, C X (.loop rO) [(6, A), (9, o), (10, .int .i64 (8 * p : Nat))] h = some (.exit 4, (6, A) :: (9, o') :: (10, y) :: ex, h') ∧ Grow 5 bD Ha h' o' (kD a n) := by
 intro k
 induction k with
 | zero =>
  intro p o h hk hp hG
  obtain rfl : p = n := by omega
  have hv := (hA.keep hG.1).vw0
  rw [← h8]
  refine ⟨.int .i64 a.length, o, h, [(59, .bool false)], ?_, hG⟩
  rw [Zc]
  unfold rO
  refine rn @hv ?_
  rw [Zw]
  simp [Za, lk]
 | succ k ih =>
  intro p o h hk hp hG
  by_cases c : p < n
  ·have hK := hA.keep hG.1
   rcases hK.2 with ⟨_, rfl⟩ | ⟨g, r, rfl, _, h3⟩
   ·simp at h8; omega
   obtain ⟨q, hq⟩ : ∃ q, q = 8 * p := ⟨_, rfl⟩
   obtain ⟨q8, Ou⟩ : ∃ q8, q8 = q + 8 := ⟨_, rfl⟩
   have z1 : IntKind.i64.wrap ((q : Int) + 8) = (q8 : Int) := wr
   have hv := hK.vw0
   have c1 : q < a.length := by omega
   have c2 : q8 ≤ a.length := by omega
   have c3 : q ≤ q8 := by omega
   have c4 : q8 - q = 8 := by omega
   have mF : vw h 1 (.row r g q 8 false) = some (((a.drop q).take 8).map iD) := by
    have : q + 8 ≤ a.length := by omega
    simp [vw, h3, this, List.map_drop, List.map_take]
   have hle : ∀ b ∈ (a.drop q).take 8, b ≤ 1 := fun b hb => hl b (List.mem_of_mem_drop (List.mem_of_mem_take hb))
   have Uj := QE mF hle (by rw [List.length_take]; omega)
   have hlt : dI ((a.drop q).take 8) < 2 ^ 8 := BH hle (by rw [List.length_take]; omega)
   obtain ⟨o2, h2, ha, ei⟩ := hG.app 1 [dI ((a.drop q).take 8)] (by simp [kD]; omega)
   have Cf : kD a (p + 1) = kD a p ++ [dI ((a.drop q).take 8)] := by rw [hq]; simp [kD, List.range_succ]
   rw [← Cf] at ei
   have eY := ih (p + 1) o2 h2 (by omega) (by omega) ei
   rw [show 8 * (p + 1) = q8 by omega] at eY
   have vK := hG.vw0
   rw [← hq]
   have hs : C X rO [(6, .row r g 0 a.length false), (9, o), (10, .int .i64 q)] h = some (.norm, [(6, .row r g 0 a.length false), (9, o2), (10, .int .i64 q8)], h2) := by
    clear ih eY hl hA hK hG ei Cf hle mF
    generalize dI ((a.drop q).take 8) = v at *
    generalize kD a p = bp at *
    have ha : aW h 5 1 1 o (bp.map bD) [.int .u8 v] = some (o2, h2) := ha
    have z2 : IntKind.u8.wrap (v : Int) = (v : Int) := uY hlt
    have y1 : ∀ (a : Int) h, bL [.int .u8 a] h = some ([.int .u8 a], h) := fun _ _ => rfl
    have y2 : ∀ a, Wc 1 (.int .u8 a) := fun a => by simp [Wc, DV.cells, DV.one]
    have y3 : ∀ a, Nr (.int .u8 a) := fun a => .int _ _
    have y4 : ∀ (a : Int) h, aM h 1 (.list 1 [.int .u8 a] true) = some [.int .u8 a] := fun _ _ => rfl
    unfold rO
    refine UL (mC @z1 @z2 @hv @vK @c1 @c2 @c3 @c4 @Uj @ha @y1 @y2 @y3 @y4) ?_
    simp [Za, lk]
   rw [Zc, hs, ZB]
   exact eY
  ·exact ih p o h (by omega) hp hG
def bV (R : DV) (bs : List Nat) : Prop := (R = .nils ∧ bs = []) ∨ R = .list 1 (bs.map bD) false
theorem bV.vw {R : DV} {bs : List Nat} (h : bV R bs) (g : Zb) : vw g 1 R = some (bs.map bD) := by
 rcases h with ⟨rfl, rfl⟩ | rfl <;> rfl
theorem QZ {H : Zb} {L : DV} {l : List Nat} {w : Nat} (hL : ∀ h : Zb, h.take H.length = H → vw h 1 L = some (l.map iD)) (hw : w ≤ 62) (hb : l.length ≤ 4096) (hl : ∀ n ∈ l, n ≤ 100000 ∧ wN n ≤ w) :
 ∃ R, E X 64 [L, .int .i64 w] H = some (.tup [R, .int .i64 0], H) ∧ bV R (pack l w) := by
 have hv := hL H List.take_length
 obtain ⟨y, o1, h1, ex, hc1, g1⟩ := NC hL hw hb hl l.length 0 .nils H (by omega) (by omega) Grow.zero
 have hlen : (eA l w).length ≤ 4096 * 62 := by rw [oG]; exact Nat.mul_le_mul hb hw
 obtain ⟨o2, h2, SQ, hc2, g2⟩ := Lp _ _ o1 h1 ((0, L) :: (1, .int .i64 w) :: (6, o1) :: (7, y) :: ex) rfl rfl (by omega) g1
 have g2 : Grow 3 iD H h2 o2 (rG (eA l w)) := g2
 have hpl := uA (eA l w)
 obtain ⟨y3, o3, h3, V9, Ss, g3⟩ := Lm g2 (n := ((eA l w).length + 7) / 8) (by rw [hpl]; omega) (by rw [hpl]; omega) (xf xK) (((eA l w).length + 7) / 8) 0 .nils h2 (by omega) (by omega) Grow.zero
 have hby : kD (rG (eA l w)) (((eA l w).length + 7) / 8) = pack l w := by
  rw [← Ru, kC, kD, hpl]
  congr 1
  congr 1
  omega
 rw [hby] at g3
 have gF : Grow 5 bD H h3 o3 (pack l w) := by
  have e1 := iN g2.1
  refine ⟨?_, ?_⟩
  ·have e2 : h3.take H.length = (h3.take h2.length).take H.length := by rw [List.take_take, Nat.min_eq_left e1]
   rw [e2, g3.1, g2.1]
  ·rcases g3.2 with h | ⟨g, o, q1, q2, q3⟩
   ·exact .inl h
   ·exact .inr ⟨g, o, q1, by omega, q3⟩
 obtain ⟨R, hf, hR⟩ := Ct gF (fun x => .int _ _) 0
 refine ⟨R, ?_, hR⟩
 rw [show ((0 : Nat) : Int) = 0 from rfl] at hc1
 rw [Nat.mul_zero, show ((0 : Nat) : Int) = 0 from rfl] at Ss
 have d0 : ¬ (w : Int) < 0 := by omega
 have d1 : ¬ (62 : Int) < (w : Int) := by omega
 have d2 : ¬ 62 < w := by omega
 have d3 : ¬ (4096 : Int) < (l.length : Int) := by omega
 have d4 : ¬ 4096 < l.length := by omega
 clear hl hL g1 g2 g3 gF hby hpl hlen hR
 rw [Zz (X := X) _ Qd _ rfl rfl]; unfold Qd
 refine rn (gJ @hv @d0 @d1 @d2 @d3 @d4) ?_
 refine aj ?_
 rw [hc1]
 refine rn trivial ?_
 refine aj ?_
 rw [hc2]
 refine rn trivial ?_
 refine aj ?_
 rw [Ss]
 refine rn trivial ?_
 simp only [Zn, ZW, lk, Za, List.map_cons, List.map_nil, reduceIte, Option.map_some, Nat.reduceEqDiff, hf]
end Go.Proofs.YtmbgfbomgbdjeaaGreatDoor
