/- Ideal runs. -/
import Derived.Test.YteekbciaggmfgaaDoorChecked
import Derived.Test.YteekbciaggmfgaaDoorPlainB
import Derived.Test.YteekbciaggmfgaaDoorNod
import Derived.Test.YteekbciaggmfgaaDoorStep
namespace Go.Proofs.YteekbciaggmfgaaDoor
set_option linter.unusedVariables false
set_option linter.unusedSimpArgs false
def BB (bs : List Nat) : Prop := ∀ x ∈ bs, x < 256
def eD (bs : List Nat) (q : Nat) : Bool := (bs.getD (q / 8) 0).testBit (q % 8)
def setB (bs : List Nat) (a c : Nat) : List Nat := bs.set (a / 8) (bs.getD (a / 8) 0 ||| c * 2 ^ (a % 8))
theorem Cy (bs : List Nat) (a c : Nat) : (setB bs a c).length = bs.length := by simp [setB]
theorem BB.getD {bs : List Nat} (h : BB bs) (k : Nat) : bs.getD k 0 < 256 := by
 rw [List.getD_eq_getElem?_getD]
 cases e : bs[k]? with
 | none => simp
 | some x => exact h x (List.mem_of_getElem? e)
theorem wZ {b c j : Nat} (hb : b < 256) (hc : c ≤ 1) (hj : j < 8) : b ||| c * 2 ^ j < 256 := by
 have h2 : c * 2 ^ j < 2 ^ 8 := by
  have : 2 ^ j ≤ 2 ^ 7 := Nat.pow_le_pow_right (by omega) (by omega)
  have : c * 2 ^ j ≤ 1 * 2 ^ 7 := Nat.mul_le_mul hc this
  omega
 exact Nat.or_lt_two_pow (n := 8) hb h2
theorem BB.setB {bs : List Nat} (h : BB bs) (a : Nat) {c : Nat} (hc : c ≤ 1) : BB (setB bs a c) := by
 intro x hx
 rcases List.mem_or_eq_of_mem_set hx with hx | rfl
 ·exact h x hx
 ·exact wZ (h.getD _) hc (Nat.mod_lt _ (by decide))
theorem BL {bs : List Nat} {a c : Nat} (h : a / 8 < bs.length) (hc : c ≤ 1) (q : Nat) : eD (Go.Proofs.YteekbciaggmfgaaDoor.setB bs a c) q = (eD bs q || (decide (q = a) && decide (c = 1))) := by
 unfold eD Go.Proofs.YteekbciaggmfgaaDoor.setB
 by_cases hq : q / 8 = a / 8
 ·rw [List.getD_eq_getElem?_getD, hq, List.getElem?_set_self h]
  simp only [Option.getD_some]
  rw [Nat.testBit_or]
  congr 1
  rcases (by omega : c = 0 ∨ c = 1) with rfl | rfl
  ·simp
  ·rw [Nat.one_mul, Nat.testBit_two_pow]
   simp only [decide_true, Bool.and_true]
   apply decide_eq_decide.2
   omega
 ·have hne : q ≠ a := fun e => hq (by rw [e])
  rw [List.getD_eq_getElem?_getD, List.getElem?_set_ne (fun e => hq e.symm), ← List.getD_eq_getElem?_getD]
  simp [hne]
theorem BH {xs bs : List Nat} (hl : xs.length = bs.length) (ha : BB xs) (hb : BB bs) (h : ∀ q, eD xs q = eD bs q) : xs = bs := by
 apply List.ext_getElem hl
 intro p h1 h2
 apply Nat.eq_of_testBit_eq
 intro j
 have ea : xs.getD p 0 = xs[p] := by rw [List.getD_eq_getElem?_getD, List.getElem?_eq_getElem h1]; rfl
 have eb : bs.getD p 0 = bs[p] := by rw [List.getD_eq_getElem?_getD, List.getElem?_eq_getElem h2]; rfl
 by_cases hj : j < 8
 ·have := h (8 * p + j)
  unfold eD at this
  rw [show (8 * p + j) / 8 = p by omega, show (8 * p + j) % 8 = j by omega, ea, eb] at this
  exact this
 ·have la := ha _ (List.getElem_mem h1)
  have lb := hb _ (List.getElem_mem h2)
  have hp : 256 ≤ 2 ^ j := Nat.le_trans (by decide : 256 ≤ 2 ^ 8) (Nat.pow_le_pow_right (by omega) (by omega))
  rw [Nat.testBit_lt_two_pow (by omega), Nat.testBit_lt_two_pow (by omega)]
theorem zu (n k : Nat) : decide (n / 2 ^ k % 2 = 1) = n.testBit k := by
 rw [Nat.testBit_eq_decide_div_mod_eq]
def kR (w i n : Nat) : Nat → List Nat → List Nat
 | 0, bs => bs
 | k + 1, bs => setB (kR w i n k bs) (i * w + k) (n / 2 ^ k % 2)
theorem lC (w i n : Nat) : ∀ (k : Nat) (bs : List Nat), (kR w i n k bs).length = bs.length
 | 0, _ => rfl
 | k + 1, bs => by rw [kR, Cy, lC w i n k]
theorem uU (w i n : Nat) : ∀ (k : Nat) {bs : List Nat}, BB bs → BB (kR w i n k bs)
 | 0, _, h => h
 | k + 1, bs, h => (uU w i n k h).setB _ (by omega)
theorem wY (w i n : Nat) : ∀ (k : Nat) (bs : List Nat), i * w + k ≤ 8 * bs.length → ∀ q, eD (kR w i n k bs) q = (eD bs q || (decide (i * w ≤ q) && decide (q < i * w + k) && n.testBit (q - i * w)))
 | 0, bs, _, q => by
  have : (decide (i * w ≤ q) && decide (q < i * w + 0)) = false := by simp
  rw [this]; simp [kR]
 | k + 1, bs, h, q => by
  rw [kR, BL (by rw [lC]; omega) (by omega), wY w i n k bs (by omega), zu, Bool.or_assoc]
  congr 1
  by_cases h1 : q = i * w + k
  ·subst h1
   have : ¬ i * w + k < i * w + k := by omega
   simp [this]
  ·by_cases h2 : q < i * w + k
   ·have h3 : q < i * w + (k + 1) := by omega
    simp [h1, h2, h3]
   ·have h3 : ¬ q < i * w + (k + 1) := by omega
    simp [h1, h2, h3]
def gy (w : Nat) : List Nat → Nat → List Nat → List Nat
 | [], _, bs => bs
 | n :: l, i, bs => gy w l (i + 1) (kR w i n w bs)
theorem se (w : Nat) : ∀ (l : List Nat) (i : Nat) (bs : List Nat), (gy w l i bs).length = bs.length
 | [], _, _ => rfl
 | n :: l, i, bs => by rw [gy, se w l, lC]
theorem uT (w : Nat) : ∀ (l : List Nat) (i : Nat) {bs : List Nat}, BB bs → BB (gy w l i bs)
 | [], _, _, h => h
 | n :: l, i, bs, h => uT w l (i + 1) (uU w i n w h)
theorem uS (w : Nat) : ∀ (l : List Nat) (i n : Nat) (bs : List Nat), gy w (l ++ [n]) i bs = kR w (i + l.length) n w (gy w l i bs)
 | [], i, n, bs => rfl
 | m :: l, i, n, bs => by
  rw [List.cons_append, gy, uS w l, gy]
  congr 1
  simp; omega
theorem wX {w : Nat} (hw : 0 < w) : ∀ (l : List Nat) (i : Nat) (bs : List Nat), (i + l.length) * w ≤ 8 * bs.length → ∀ q, eD (gy w l i bs) q = (eD bs q || (decide (i * w ≤ q) && decide (q < (i + l.length) * w) && (l.getD (q / w - i) 0).testBit (q % w)))
 | [], i, bs, _, q => by
  have : (decide (i * w ≤ q) && decide (q < (i + 0) * w)) = false := by simp
  simp only [List.length_nil]
  rw [this]; simp [gy]
 | n :: l, i, bs, h, q => by
  simp only [List.length_cons] at h ⊢
  have e : (i + 1 + l.length) * w = (i + (l.length + 1)) * w := by congr 1; omega
  have hle : i * w + w ≤ (i + (l.length + 1)) * w := by
   rw [← Nat.succ_mul]; exact Nat.mul_le_mul_right w (by omega)
  rw [gy, wX hw l (i + 1) _ (by rw [lC, e]; exact h), wY w i n w bs (by omega), Bool.or_assoc, e]
  congr 1
  have hs : (i + 1) * w = i * w + w := Nat.succ_mul i w
  by_cases h1 : i * w ≤ q
  ·by_cases h2 : q < i * w + w
   ·have hd : q / w = i := by
     apply Nat.div_eq_of_lt_le
     ·exact h1
     ·rw [Nat.succ_mul]; exact h2
    have hm : q % w = q - i * w := by
     have := Nat.div_add_mod q w
     rw [hd, Nat.mul_comm] at this; omega
    have h3 : ¬ (i + 1) * w ≤ q := by omega
    have h4 : q < (i + (l.length + 1)) * w := by omega
    rw [hd, hm, Nat.sub_self]
    simp [h1, h2, h3, h4]
   ·have h3 : (i + 1) * w ≤ q := by omega
    have hd : i + 1 ≤ q / w := (Nat.le_div_iff_mul_le hw).2 h3
    rw [show q / w - i = (q / w - (i + 1)) + 1 by omega]
    simp [h1, h2, h3]
  ·have h3 : ¬ (i + 1) * w ≤ q := by omega
   simp [h1, h3]
def pack (l : List Nat) (w : Nat) : List Nat := gy w l 0 (List.replicate ((l.length * w + 7) / 8) 0)
theorem iZ (l : List Nat) (w : Nat) : (pack l w).length = (l.length * w + 7) / 8 := by simp [pack, se]
theorem po (l : List Nat) (w : Nat) : BB (pack l w) := uT w l 0 (fun x hx => by rw [List.eq_of_mem_replicate hx]; decide)
theorem qd (l : List Nat) (w : Nat) (q : Nat) : eD (pack l w) q = (decide (q < l.length * w) && (l.getD (q / w) 0).testBit (q % w)) := by
 have h0 : ∀ m, eD (List.replicate m 0) q = false := by
  intro m
  unfold eD
  rw [List.getD_eq_getElem?_getD, List.getElem?_replicate]
  split <;> simp
 rcases Nat.eq_zero_or_pos w with rfl | hw
 ·have : eD (pack l 0) q = false := by
   unfold eD
   rw [List.getD_eq_getElem?_getD, List.getElem?_eq_none (by rw [iZ]; omega)]
   simp
  rw [this]; simp
 ·unfold pack
  rw [wX hw l 0 _ (by simp; omega), h0]
  simp
def eA (n w : Nat) : List Nat := (List.range w).map fun k => n / 2 ^ k % 2
def bA (l : List Nat) (w : Nat) : List Nat := l.flatMap fun n => eA n w
def ec : List Nat → Nat
 | [] => 0
 | b :: l => 2 * ec l + b
theorem i6 (n w : Nat) : (eA n w).length = w := by simp [eA]
theorem nj (w : Nat) : ∀ l : List Nat, (bA l w).length = l.length * w
 | [] => by simp [bA]
 | n :: l => by
  have := nj w l
  simp only [bA, List.flatMap_cons, List.length_append, i6, List.length_cons] at this ⊢
  rw [this, Nat.succ_mul]; omega
theorem qv {w : Nat} (hw : 0 < w) : ∀ (l : List Nat) (q : Nat), q < l.length * w → (bA l w).getD q 0 = l.getD (q / w) 0 / 2 ^ (q % w) % 2
 | [], q, h => by simp at h
 | n :: l, q, h => by
  have e : bA (n :: l) w = eA n w ++ bA l w := rfl
  rw [e]
  by_cases c : q < w
  ·rw [List.getD_eq_getElem?_getD, List.getElem?_append_left (by rw [i6]; exact c), Nat.div_eq_of_lt c, Nat.mod_eq_of_lt c]
   simp [eA, c]
  ·have hq : q - w < l.length * w := by
    simp only [List.length_cons, Nat.succ_mul] at h; omega
   have ih := qv hw l (q - w) hq
   rw [List.getD_eq_getElem?_getD, List.getElem?_append_right (by rw [i6]; omega), i6, ← List.getD_eq_getElem?_getD, ih]
   have hd : q / w = (q - w) / w + 1 := by
    rw [← Nat.add_div_right _ hw]; congr 1; omega
   have hm : q % w = (q - w) % w := by
    rw [Nat.mod_eq_sub_mod (by omega)]
   rw [hd, hm]
   simp
theorem uo : ∀ (l : List Nat), (∀ b ∈ l, b ≤ 1) → ∀ j, (ec l).testBit j = decide (l.getD j 0 = 1)
 | [], _, j => by simp [ec]
 | b :: l, h, j => by
  have hb : b ≤ 1 := h b (by simp)
  have ih := uo l (fun x hx => h x (by simp [hx]))
  rw [ec]
  cases j with
  | zero =>
   rw [Nat.testBit_zero]
   simp only [List.getD_cons_zero]
   apply decide_eq_decide.2
   omega
  | succ j =>
   rw [Nat.testBit_succ, show (2 * ec l + b) / 2 = ec l by omega, ih]
   simp
theorem wQ : ∀ (l : List Nat), (∀ b ∈ l, b ≤ 1) → ec l < 2 ^ l.length
 | [], _ => by simp [ec]
 | b :: l, h => by
  have hb : b ≤ 1 := h b (by simp)
  have ih := wQ l (fun x hx => h x (by simp [hx]))
  rw [ec, List.length_cons, Nat.pow_succ]; omega
theorem xV {w : Nat} {l : List Nat} : ∀ b ∈ bA l w, b ≤ 1 := by
 intro b hb
 simp only [bA, List.mem_flatMap, eA, List.mem_map] at hb
 obtain ⟨n, _, k, _, rfl⟩ := hb
 omega
set_option maxRecDepth 10000
abbrev bD (n : Nat) : DV := .int .u8 (n : Int)
def wN (n : Nat) : Nat := Go.Sort.bitsLen n
theorem Eg (n : Nat) (hn : n < 256) (h : Zb) : E X 55 [.int .i64 n] h = some (.int .i64 (wN n : Nat), h) := by
 have e := yg n hn h
 have m1 := CS n
 have u1 : IntKind.u64.wrap (n : Int) = (n : Int) := by rw [fB, Nat.mod_eq_of_lt (by omega)]
 rw [ZO (X := X) _ BU _ rfl rfl]; unfold BU; (repeat (first | rw [ZL] | rw [Zs (by simp [ZF, Zy, ZA, ZB, Zp, Zf, Zm, Zi, Zk, Zc, Zd, Zj, Zq, Zr, ZC, ↓Zh, Zo, Zg, Zz, Zu, Zt, ZR, Zv, Yj, put, lk, Od.v, Za, Ze, Zl, Yv, Yb, Ya, Yd, ai, Yt, DV.isU, DV.cells, ae, ZJ, ZX, ZK, Zn, splice, DV.one, ZM, af, ZT, Ys, e, m1, u1, wN]; exact ⟨rfl, rfl⟩)] | rw [Yi (by simp [lk, Za, Od.v, e, m1, u1, wN]; exact rfl)] | rw [Zu] | rw [Zt] | rw [ZY] | rw [Yo] | rw [Ye] | rw [Yl] | rw [Yg] | rw [Yf] | rw [ZU] | rw [ZP] | rw [ZQ] | rw [ZI (by decide)] | rw [ZN] | rw [ZG] | rw [ZH] | rw [ZE (by decide)] | rw [Yq] | rw [Ym (by simp [ZF, Zy, ZA, ZB, Zp, Zf, Zm, Zi, Zk, Zc, Zd, Zj, Zq, Zr, ZC, ↓Zh, Zo, Zg, Zz, Zu, Zt, ZR, Zv, Yj, put, lk, Od.v, Za, Ze, Zl, Yv, Yb, Ya, Yd, ai, Yt, DV.isU, DV.cells, ae, ZJ, ZX, ZK, Zn, splice, DV.one, ZM, af, ZT, Ys, e, m1, u1, wN]; exact ⟨rfl, rfl⟩)] | rw [Yp (by simp [lk, Za, Od.v, e, m1, u1, wN]; exact rfl)] | rw [Yk])); simp [Zw, ZV, Yc, ZF, Zy, ZA, ZB, Zp, Zf, Zm, Zi, Zk, Zc, Zd, Zj, Zq, Zr, ZC, ↓Zh, Zo, Zg, Zz, Zu, Zt, ZR, Zv, Yj, put, lk, Od.v, Za, Ze, Zl, Yv, Yb, Ya, Yd, ai, Yt, DV.isU, DV.cells, ae, ZJ, ZX, ZK, Zn, splice, DV.one, ZM, af, ZT, Ys, fin, aV, aO, bH, cL, dD, e, m1, u1, wN]
theorem Gi (h : Zb) : E X 55 [.int .i64 (-1)] h = some (.int .i64 0, h) := by
 have e := yg 0 (by omega) h
 have m1 : mm true .i64 (-1) [.int .i64 0] = some 0 := by rfl
 have u1 : IntKind.u64.wrap (0 : Int) = 0 := by rfl
 have b0 : Go.Sort.bitsLen 0 = 0 := rfl
 rw [b0, show ((0 : Nat) : Int) = 0 from rfl] at e
 rw [ZO (X := X) _ BU _ rfl rfl]; unfold BU; (repeat (first | rw [ZL] | rw [Zs (by simp [ZF, Zy, ZA, ZB, Zp, Zf, Zm, Zi, Zk, Zc, Zd, Zj, Zq, Zr, ZC, ↓Zh, Zo, Zg, Zz, Zu, Zt, ZR, Zv, Yj, put, lk, Od.v, Za, Ze, Zl, Yv, Yb, Ya, Yd, ai, Yt, DV.isU, DV.cells, ae, ZJ, ZX, ZK, Zn, splice, DV.one, ZM, af, ZT, Ys, e, m1, u1]; exact ⟨rfl, rfl⟩)] | rw [Yi (by simp [lk, Za, Od.v, e, m1, u1]; exact rfl)] | rw [Zu] | rw [Zt] | rw [ZY] | rw [Yo] | rw [Ye] | rw [Yl] | rw [Yg] | rw [Yf] | rw [ZU] | rw [ZP] | rw [ZQ] | rw [ZI (by decide)] | rw [ZN] | rw [ZG] | rw [ZH] | rw [ZE (by decide)] | rw [Yq] | rw [Ym (by simp [ZF, Zy, ZA, ZB, Zp, Zf, Zm, Zi, Zk, Zc, Zd, Zj, Zq, Zr, ZC, ↓Zh, Zo, Zg, Zz, Zu, Zt, ZR, Zv, Yj, put, lk, Od.v, Za, Ze, Zl, Yv, Yb, Ya, Yd, ai, Yt, DV.isU, DV.cells, ae, ZJ, ZX, ZK, Zn, splice, DV.one, ZM, af, ZT, Ys, e, m1, u1]; exact ⟨rfl, rfl⟩)] | rw [Yp (by simp [lk, Za, Od.v, e, m1, u1]; exact rfl)] | rw [Yk])); simp [Zw, ZV, Yc, ZF, Zy, ZA, ZB, Zp, Zf, Zm, Zi, Zk, Zc, Zd, Zj, Zq, Zr, ZC, ↓Zh, Zo, Zg, Zz, Zu, Zt, ZR, Zv, Yj, put, lk, Od.v, Za, Ze, Zl, Yv, Yb, Ya, Yd, ai, Yt, DV.isU, DV.cells, ae, ZJ, ZX, ZK, Zn, splice, DV.one, ZM, af, ZT, Ys, fin, aV, aO, bH, cL, dD, e, m1, u1]
def wC (n : Nat) : Nat := wN (n - 1)
theorem uf (n : Nat) (hn : n ≤ 256) (h : Zb) : E X 31 [.int .i64 n] h = some (.int .i64 (wC n : Nat), h) := by
 rcases Nat.eq_zero_or_pos n with rfl | hp
 ·have e := Gi h
  have z : IntKind.i64.wrap (-1) = -1 := by rfl
  have b0 : wC 0 = 0 := rfl
  rw [b0]
  rw [ZO (X := X) _ B7 _ rfl rfl]; unfold B7; (repeat (first | rw [ZL] | rw [Zs (by simp [ZF, Zy, ZA, ZB, Zp, Zf, Zm, Zi, Zk, Zc, Zd, Zj, Zq, Zr, ZC, ↓Zh, Zo, Zg, Zz, Zu, Zt, ZR, Zv, Yj, put, lk, Od.v, Za, Ze, Zl, Yv, Yb, Ya, Yd, ai, Yt, DV.isU, DV.cells, ae, ZJ, ZX, ZK, Zn, splice, DV.one, ZM, af, ZT, Ys, e, z]; exact ⟨rfl, rfl⟩)] | rw [Yi (by simp [lk, Za, Od.v, e, z]; exact rfl)] | rw [Zu] | rw [Zt] | rw [ZY] | rw [Yo] | rw [Ye] | rw [Yl] | rw [Yg] | rw [Yf] | rw [ZU] | rw [ZP] | rw [ZQ] | rw [ZI (by decide)] | rw [ZN] | rw [ZG] | rw [ZH] | rw [ZE (by decide)] | rw [Yq] | rw [Ym (by simp [ZF, Zy, ZA, ZB, Zp, Zf, Zm, Zi, Zk, Zc, Zd, Zj, Zq, Zr, ZC, ↓Zh, Zo, Zg, Zz, Zu, Zt, ZR, Zv, Yj, put, lk, Od.v, Za, Ze, Zl, Yv, Yb, Ya, Yd, ai, Yt, DV.isU, DV.cells, ae, ZJ, ZX, ZK, Zn, splice, DV.one, ZM, af, ZT, Ys, e, z]; exact ⟨rfl, rfl⟩)] | rw [Yp (by simp [lk, Za, Od.v, e, z]; exact rfl)] | rw [Yk])); simp [Zw, ZV, Yc, ZF, Zy, ZA, ZB, Zp, Zf, Zm, Zi, Zk, Zc, Zd, Zj, Zq, Zr, ZC, ↓Zh, Zo, Zg, Zz, Zu, Zt, ZR, Zv, Yj, put, lk, Od.v, Za, Ze, Zl, Yv, Yb, Ya, Yd, ai, Yt, DV.isU, DV.cells, ae, ZJ, ZX, ZK, Zn, splice, DV.one, ZM, af, ZT, Ys, fin, aV, aO, bH, cL, dD, e, z]
 ·obtain ⟨k, hk⟩ : ∃ k, k = n - 1 := ⟨_, rfl⟩
  have e := Eg k (by omega) h
  have z : IntKind.i64.wrap ((n : Int) - 1) = (k : Int) := wr
  have b0 : wC n = wN k := by rw [hk]; rfl
  rw [b0]
  rw [ZO (X := X) _ B7 _ rfl rfl]; unfold B7; (repeat (first | rw [ZL] | rw [Zs (by simp [ZF, Zy, ZA, ZB, Zp, Zf, Zm, Zi, Zk, Zc, Zd, Zj, Zq, Zr, ZC, ↓Zh, Zo, Zg, Zz, Zu, Zt, ZR, Zv, Yj, put, lk, Od.v, Za, Ze, Zl, Yv, Yb, Ya, Yd, ai, Yt, DV.isU, DV.cells, ae, ZJ, ZX, ZK, Zn, splice, DV.one, ZM, af, ZT, Ys, e, z]; exact ⟨rfl, rfl⟩)] | rw [Yi (by simp [lk, Za, Od.v, e, z]; exact rfl)] | rw [Zu] | rw [Zt] | rw [ZY] | rw [Yo] | rw [Ye] | rw [Yl] | rw [Yg] | rw [Yf] | rw [ZU] | rw [ZP] | rw [ZQ] | rw [ZI (by decide)] | rw [ZN] | rw [ZG] | rw [ZH] | rw [ZE (by decide)] | rw [Yq] | rw [Ym (by simp [ZF, Zy, ZA, ZB, Zp, Zf, Zm, Zi, Zk, Zc, Zd, Zj, Zq, Zr, ZC, ↓Zh, Zo, Zg, Zz, Zu, Zt, ZR, Zv, Yj, put, lk, Od.v, Za, Ze, Zl, Yv, Yb, Ya, Yd, ai, Yt, DV.isU, DV.cells, ae, ZJ, ZX, ZK, Zn, splice, DV.one, ZM, af, ZT, Ys, e, z]; exact ⟨rfl, rfl⟩)] | rw [Yp (by simp [lk, Za, Od.v, e, z]; exact rfl)] | rw [Yk])); simp [Zw, ZV, Yc, ZF, Zy, ZA, ZB, Zp, Zf, Zm, Zi, Zk, Zc, Zd, Zj, Zq, Zr, ZC, ↓Zh, Zo, Zg, Zz, Zu, Zt, ZR, Zv, Yj, put, lk, Od.v, Za, Ze, Zl, Yv, Yb, Ya, Yd, ai, Yt, DV.isU, DV.cells, ae, ZJ, ZX, ZK, Zn, splice, DV.one, ZM, af, ZT, Ys, fin, aV, aO, bH, cL, dD, e, z]
theorem yh (n w : Nat) (hn : n ≤ 100000) (hw : w ≤ 62) (h : Zb) : E X 71 [.int .i64 n, .int .i64 w] h = some (.int .i64 ((n * w + 7) / 8 : Nat), h) := by
 have hm : n * w ≤ 100000 * 62 := Nat.mul_le_mul hn hw
 obtain ⟨P, hP⟩ : ∃ P, P = n * w := ⟨_, rfl⟩
 have z1 : IntKind.i64.wrap ((n : Int) * (w : Int)) = (P : Int) := by
  rw [← Int.natCast_mul, ← hP, wrap64 _ (by omega) (by omega)]
 obtain ⟨Q, hQ⟩ : ∃ Q, Q = P + 7 := ⟨_, rfl⟩
 have z2 : IntKind.i64.wrap ((P : Int) + 7) = (Q : Int) := wr
 obtain ⟨R, hR⟩ : ∃ R, R = Q / 8 := ⟨_, rfl⟩
 have z3 : IntKind.i64.wrap ((Q : Int) / 8) = (R : Int) := wr
 rw [← hP, ← hQ, ← hR]
 clear hP hQ hR hm
 rw [ZO (X := X) _ JB _ rfl rfl]; unfold JB; (repeat (first | rw [ZL] | rw [Zs (by simp [ZF, Zy, ZA, ZB, Zp, Zf, Zm, Zi, Zk, Zc, Zd, Zj, Zq, Zr, ZC, ↓Zh, Zo, Zg, Zz, Zu, Zt, ZR, Zv, Yj, put, lk, Od.v, Za, Ze, Zl, Yv, Yb, Ya, Yd, ai, Yt, DV.isU, DV.cells, ae, ZJ, ZX, ZK, Zn, splice, DV.one, ZM, af, ZT, Ys, z1, z2, z3]; exact ⟨rfl, rfl⟩)] | rw [Yi (by simp [lk, Za, Od.v, z1, z2, z3]; exact rfl)] | rw [Zu] | rw [Zt] | rw [ZY] | rw [Yo] | rw [Ye] | rw [Yl] | rw [Yg] | rw [Yf] | rw [ZU] | rw [ZP] | rw [ZQ] | rw [ZI (by decide)] | rw [ZN] | rw [ZG] | rw [ZH] | rw [ZE (by decide)] | rw [Yq] | rw [Ym (by simp [ZF, Zy, ZA, ZB, Zp, Zf, Zm, Zi, Zk, Zc, Zd, Zj, Zq, Zr, ZC, ↓Zh, Zo, Zg, Zz, Zu, Zt, ZR, Zv, Yj, put, lk, Od.v, Za, Ze, Zl, Yv, Yb, Ya, Yd, ai, Yt, DV.isU, DV.cells, ae, ZJ, ZX, ZK, Zn, splice, DV.one, ZM, af, ZT, Ys, z1, z2, z3]; exact ⟨rfl, rfl⟩)] | rw [Yp (by simp [lk, Za, Od.v, z1, z2, z3]; exact rfl)] | rw [Yk])); simp [Zw, ZV, Yc, ZF, Zy, ZA, ZB, Zp, Zf, Zm, Zi, Zk, Zc, Zd, Zj, Zq, Zr, ZC, ↓Zh, Zo, Zg, Zz, Zu, Zt, ZR, Zv, Yj, put, lk, Od.v, Za, Ze, Zl, Yv, Yb, Ya, Yd, ai, Yt, DV.isU, DV.cells, ae, ZJ, ZX, ZK, Zn, splice, DV.one, ZM, af, ZT, Ys, fin, aV, aO, bH, cL, dD, z1, z2, z3]
theorem ud (w : Nat) (hw : w ≤ 62) (h : Zb) : E X 53 [.int .i64 w] h = some (.bool true, h) := by
 have h2 : (w : Int) ≤ 62 := by omega
 rw [ZO (X := X) _ JI _ rfl rfl]; unfold JI; (repeat (first | rw [ZL] | rw [Zs (by simp [ZF, Zy, ZA, ZB, Zp, Zf, Zm, Zi, Zk, Zc, Zd, Zj, Zq, Zr, ZC, ↓Zh, Zo, Zg, Zz, Zu, Zt, ZR, Zv, Yj, put, lk, Od.v, Za, Ze, Zl, Yv, Yb, Ya, Yd, ai, Yt, DV.isU, DV.cells, ae, ZJ, ZX, ZK, Zn, splice, DV.one, ZM, af, ZT, Ys, h2, hw]; exact ⟨rfl, rfl⟩)] | rw [Yi (by simp [lk, Za, Od.v, h2, hw]; exact rfl)] | rw [Zu] | rw [Zt] | rw [ZY] | rw [Yo] | rw [Ye] | rw [Yl] | rw [Yg] | rw [Yf] | rw [ZU] | rw [ZP] | rw [ZQ] | rw [ZI (by decide)] | rw [ZN] | rw [ZG] | rw [ZH] | rw [ZE (by decide)] | rw [Yq] | rw [Ym (by simp [ZF, Zy, ZA, ZB, Zp, Zf, Zm, Zi, Zk, Zc, Zd, Zj, Zq, Zr, ZC, ↓Zh, Zo, Zg, Zz, Zu, Zt, ZR, Zv, Yj, put, lk, Od.v, Za, Ze, Zl, Yv, Yb, Ya, Yd, ai, Yt, DV.isU, DV.cells, ae, ZJ, ZX, ZK, Zn, splice, DV.one, ZM, af, ZT, Ys, h2, hw]; exact ⟨rfl, rfl⟩)] | rw [Yp (by simp [lk, Za, Od.v, h2, hw]; exact rfl)] | rw [Yk])); simp [Zw, ZV, Yc, ZF, Zy, ZA, ZB, Zp, Zf, Zm, Zi, Zk, Zc, Zd, Zj, Zq, Zr, ZC, ↓Zh, Zo, Zg, Zz, Zu, Zt, ZR, Zv, Yj, put, lk, Od.v, Za, Ze, Zl, Yv, Yb, Ya, Yd, ai, Yt, DV.isU, DV.cells, ae, ZJ, ZX, ZK, Zn, splice, DV.one, ZM, af, ZT, Ys, fin, aV, aO, bH, cL, dD, h2, hw]
theorem Dm {h h' : Zb} (hl : h'.length = h.length) : fin h h' [] = (.tup [], h') := by
 unfold fin
 split
 ·rename_i hd; cases hd
 ·split
  ·rename_i ht
   rw [List.take_of_length_le (by omega)] at ht
   subst ht
   rfl
  ·rfl
theorem Hf {f w i : Nat} {cap : List DV} {S : Nat → Zb} (hw : w ≤ 62) (hi : i ≤ 100000) (hf : ∀ k, k < w → E X f (.int .i64 (i * w + k : Nat) :: .int .i64 k :: cap) (S k) = some (.tup [], S (k + 1))) :
 ∀ (m k : Nat), w - k ≤ m → k ≤ w → ∃ y ex, C X (.loop nY) [(0, .int .i64 i), (1, .int .i64 w), (2, .func f [] cap), (7, .int .i64 w), (8, .int .i64 k)] (S k) = some (.exit 0, (0, .int .i64 i) :: (1, .int .i64 w) :: (2, .func f [] cap) :: (7, .int .i64 w) :: (8, y) :: ex, S w) := by
 intro m
 induction m with
 | zero =>
  intro k hm hk
  obtain rfl : k = w := by omega
  refine ⟨.int .i64 k, [(9, .bool false)], ?_⟩
  rw [Zx]
  unfold nY
  (repeat (first | rw [ZL] | rw [Zs (by simp [ZF, Zy, ZA, ZB, Zp, Zf, Zm, Zi, Zk, Zc, Zd, Zj, Zq, Zr, ZC, ↓Zh, Zo, Zg, Zz, Zu, Zt, ZR, Zv, Yj, put, lk, Od.v, Za, Ze, Zl, Yv, Yb, Ya, Yd, ai, Yt, DV.isU, DV.cells, ae, ZJ, ZX, ZK, Zn, splice, DV.one, ZM, af, ZT, Ys]; exact ⟨rfl, rfl⟩)] | rw [Yi (by simp [lk, Za, Od.v]; exact rfl)] | rw [Zu] | rw [Zt] | rw [ZY] | rw [Yo] | rw [Ye] | rw [Yl] | rw [Yg] | rw [Yf] | rw [ZU] | rw [ZP] | rw [ZQ] | rw [ZI (by decide)] | rw [ZN] | rw [ZG] | rw [ZH] | rw [ZE (by decide)] | rw [Yq] | rw [Ym (by simp [ZF, Zy, ZA, ZB, Zp, Zf, Zm, Zi, Zk, Zc, Zd, Zj, Zq, Zr, ZC, ↓Zh, Zo, Zg, Zz, Zu, Zt, ZR, Zv, Yj, put, lk, Od.v, Za, Ze, Zl, Yv, Yb, Ya, Yd, ai, Yt, DV.isU, DV.cells, ae, ZJ, ZX, ZK, Zn, splice, DV.one, ZM, af, ZT, Ys]; exact ⟨rfl, rfl⟩)] | rw [Yp (by simp [lk, Za, Od.v]; exact rfl)] | rw [Yk]))
  rw [ZS]
  simp [Za, lk]
 | succ m ih =>
  intro k hm hk
  by_cases c : k < w
  ·obtain ⟨K, hK⟩ : ∃ K, K = k + 1 := ⟨_, rfl⟩
   have z1 : IntKind.i64.wrap ((k : Int) + 1) = (K : Int) := wr
   have hmul : i * w ≤ 100000 * 62 := Nat.mul_le_mul hi hw
   have e := hf k c
   obtain ⟨P, hP⟩ : ∃ P, P = i * w := ⟨_, rfl⟩
   have z2 : IntKind.i64.wrap ((i : Int) * (w : Int)) = (P : Int) := by
    rw [← Int.natCast_mul, ← hP, wrap64 _ (by omega) (by omega)]
   obtain ⟨Q, hQ⟩ : ∃ Q, Q = P + k := ⟨_, rfl⟩
   have z3 : IntKind.i64.wrap ((P : Int) + (k : Int)) = (Q : Int) := wr
   rw [← hP, ← hQ, ← hK] at e
   have hs : C X nY [(0, .int .i64 i), (1, .int .i64 w), (2, .func f [] cap), (7, .int .i64 w), (8, .int .i64 k)] (S k) = some (.norm, [(0, .int .i64 i), (1, .int .i64 w), (2, .func f [] cap), (7, .int .i64 w), (8, .int .i64 K)], S K) := by
    clear ih hf hP hQ hmul
    generalize S k = s1 at *
    generalize S K = s2 at *
    unfold nY
    (repeat (first | rw [ZL] | rw [Zs (by simp [ZF, Zy, ZA, ZB, Zp, Zf, Zm, Zi, Zk, Zc, Zd, Zj, Zq, Zr, ZC, ↓Zh, Zo, Zg, Zz, Zu, Zt, ZR, Zv, Yj, put, lk, Od.v, Za, Ze, Zl, Yv, Yb, Ya, Yd, ai, Yt, DV.isU, DV.cells, ae, ZJ, ZX, ZK, Zn, splice, DV.one, ZM, af, ZT, Ys, c, z1, z2, z3, e]; exact ⟨rfl, rfl⟩)] | rw [Yi (by simp [lk, Za, Od.v, c, z1, z2, z3, e]; exact rfl)] | rw [Zu] | rw [Zt] | rw [ZY] | rw [Yo] | rw [Ye] | rw [Yl] | rw [Yg] | rw [Yf] | rw [ZU] | rw [ZP] | rw [ZQ] | rw [ZI (by decide)] | rw [ZN] | rw [ZG] | rw [ZH] | rw [ZE (by decide)] | rw [Yq] | rw [Ym (by simp [ZF, Zy, ZA, ZB, Zp, Zf, Zm, Zi, Zk, Zc, Zd, Zj, Zq, Zr, ZC, ↓Zh, Zo, Zg, Zz, Zu, Zt, ZR, Zv, Yj, put, lk, Od.v, Za, Ze, Zl, Yv, Yb, Ya, Yd, ai, Yt, DV.isU, DV.cells, ae, ZJ, ZX, ZK, Zn, splice, DV.one, ZM, af, ZT, Ys, c, z1, z2, z3, e]; exact ⟨rfl, rfl⟩)] | rw [Yp (by simp [lk, Za, Od.v, c, z1, z2, z3, e]; exact rfl)] | rw [Yk]))
    simp [Za, lk]
   rw [Zx, hs, ZZ]
   exact ih K (by omega) (by omega)
  ·exact ih k (by omega) hk
theorem Ec {f w i : Nat} {cap : List DV} {S : Nat → Zb} (hw : w ≤ 62) (hi : i ≤ 100000) (hf : ∀ k, k < w → E X f (.int .i64 (i * w + k : Nat) :: .int .i64 k :: cap) (S k) = some (.tup [], S (k + 1))) (hl : (S w).length = (S 0).length) :
 E X 72 [.int .i64 i, .int .i64 w, .func f [] cap] (S 0) = some (.tup [], S w) := by
 obtain ⟨y, ex, hc⟩ := Hf hw hi hf w 0 (by omega) (by omega)
 rw [show ((0 : Nat) : Int) = 0 from rfl] at hc
 have aB := Dm hl
 generalize S 0 = s1 at *
 generalize S w = s2 at *
 rw [ZO (X := X) _ JA _ rfl rfl]; unfold JA
 (repeat (first | rw [ZL] | rw [Zs (by simp [ZF, Zy, ZA, ZB, Zp, Zf, Zm, Zi, Zk, Zc, Zd, Zj, Zq, Zr, ZC, ↓Zh, Zo, Zg, Zz, Zu, Zt, ZR, Zv, Yj, put, lk, Od.v, Za, Ze, Zl, Yv, Yb, Ya, Yd, ai, Yt, DV.isU, DV.cells, ae, ZJ, ZX, ZK, Zn, splice, DV.one, ZM, af, ZT, Ys]; exact ⟨rfl, rfl⟩)] | rw [Yi (by simp [lk, Za, Od.v]; exact rfl)] | rw [Zu] | rw [Zt] | rw [ZY] | rw [Yo] | rw [Ye] | rw [Yl] | rw [Yg] | rw [Yf] | rw [ZU] | rw [ZP] | rw [ZQ] | rw [ZI (by decide)] | rw [ZN] | rw [ZG] | rw [ZH] | rw [ZE (by decide)] | rw [Yq] | rw [Ym (by simp [ZF, Zy, ZA, ZB, Zp, Zf, Zm, Zi, Zk, Zc, Zd, Zj, Zq, Zr, ZC, ↓Zh, Zo, Zg, Zz, Zu, Zt, ZR, Zv, Yj, put, lk, Od.v, Za, Ze, Zl, Yv, Yb, Ya, Yd, ai, Yt, DV.isU, DV.cells, ae, ZJ, ZX, ZK, Zn, splice, DV.one, ZM, af, ZT, Ys]; exact ⟨rfl, rfl⟩)] | rw [Yp (by simp [lk, Za, Od.v]; exact rfl)] | rw [Yk]))
 (try simp only [Za, List.map_cons, List.map_nil, lk, reduceIte, Nat.reduceEqDiff, Nat.zero_ne_one, Nat.one_ne_zero])
 rw [hc]
 (repeat (first | rw [ZL] | rw [Zs (by simp [ZF, Zy, ZA, ZB, Zp, Zf, Zm, Zi, Zk, Zc, Zd, Zj, Zq, Zr, ZC, ↓Zh, Zo, Zg, Zz, Zu, Zt, ZR, Zv, Yj, put, lk, Od.v, Za, Ze, Zl, Yv, Yb, Ya, Yd, ai, Yt, DV.isU, DV.cells, ae, ZJ, ZX, ZK, Zn, splice, DV.one, ZM, af, ZT, Ys]; exact ⟨rfl, rfl⟩)] | rw [Yi (by simp [lk, Za, Od.v]; exact rfl)] | rw [Zu] | rw [Zt] | rw [ZY] | rw [Yo] | rw [Ye] | rw [Yl] | rw [Yg] | rw [Yf] | rw [ZU] | rw [ZP] | rw [ZQ] | rw [ZI (by decide)] | rw [ZN] | rw [ZG] | rw [ZH] | rw [ZE (by decide)] | rw [Yq] | rw [Ym (by simp [ZF, Zy, ZA, ZB, Zp, Zf, Zm, Zi, Zk, Zc, Zd, Zj, Zq, Zr, ZC, ↓Zh, Zo, Zg, Zz, Zu, Zt, ZR, Zv, Yj, put, lk, Od.v, Za, Ze, Zl, Yv, Yb, Ya, Yd, ai, Yt, DV.isU, DV.cells, ae, ZJ, ZX, ZK, Zn, splice, DV.one, ZM, af, ZT, Ys]; exact ⟨rfl, rfl⟩)] | rw [Yp (by simp [lk, Za, Od.v]; exact rfl)] | rw [Yk]))
 rw [ZV]
 simp only [Yc, Option.map_some, aB]
def ph (H : Zb) (bs : List Nat) (m : Nat) (ns : Zb) : Zb := H ++ (.row 5 1 0 (bs.map bD) :: .box 23 [.row H.length 0 0 m false] :: ns)
section
variable {H ns : Zb} {bs : List Nat} {m : Nat}
theorem zX : (ph H bs m ns)[H.length + 1]? = some (.box 23 [.row H.length 0 0 m false]) := by simp [ph, ae]
theorem uV : (ph H bs m ns)[H.length]? = some (.row 5 1 0 (bs.map bD)) := by simp [ph]
theorem GX (n : DV) : (ph H bs m (ns ++ [.box 3 [n]]))[H.length + 2 + ns.length]? = some (.box 3 [n]) := by
 rw [ph, List.getElem?_append_right (by omega), show H.length + 2 + ns.length - H.length = ns.length + 1 + 1 by omega, List.getElem?_cons_succ, List.getElem?_cons_succ, List.getElem?_append_right (by omega)]
 simp
theorem KP (hm : bs.length = m) : vw (ph H bs m ns) 1 (.row H.length 0 0 m false) = some (bs.map bD) := by
 subst hm; simp [vw, uV, List.take_of_length_le]
theorem KO (hm : bs.length = m) {i : Nat} (hi : i < m) (x : Nat) : stx (ph H bs m ns) 1 (.elem (.row H.length 0 0 m false) 1 i 0) (.int .u8 x) = some (ph H (bs.set i x) m ns) := by
 subst hm
 have h1 : (ph H bs bs.length ns)[H.length]? = some (.row 5 1 0 (bs.map bD)) := uV
 have h2 : (bs.map bD)[i]? = some (bD bs[i]) := by simp [List.getElem?_eq_getElem hi]
 rw [stx, if_pos (by simp [DV.cells, DV.one])]
 simp only [h1]
 rw [if_pos (by simp [hi])]
 simp only [Nat.zero_add, h2]
 simp [mW, DV.one, ph, ZX]
theorem nM : (ph H bs m ns).length = H.length + 2 + ns.length := by simp [ph]; omega
end
theorem gb {n : Nat} (h : n < 256) : IntKind.u8.wrap (n : Int) = (n : Int) := by
 simp [IntKind.wrap, IntKind.bits, IntKind.signed]
 omega
theorem Km {H ns : Zb} {bs : List Nat} {m n a k : Nat} (hm : bs.length = m) (bb : BB bs) (ha : a / 8 < m) (ha' : a < 10000000) (hk : k ≤ 62) (hn : n < 256) :
 E X 73 [.int .i64 a, .int .i64 k, .ref (H.length + 1) 0, .ref (H.length + 2 + ns.length) 0] (ph H bs m (ns ++ [.box 3 [.int .i64 n]])) = some (.tup [], ph H (setB bs a (n / 2 ^ k % 2)) m (ns ++ [.box 3 [.int .i64 n]])) := by
 obtain ⟨p, hp⟩ : ∃ p, p = a / 8 := ⟨_, rfl⟩
 obtain ⟨j, hj⟩ : ∃ j, j = a % 8 := ⟨_, rfl⟩
 obtain ⟨q, hq⟩ : ∃ q, q = n / 2 ^ k := ⟨_, rfl⟩
 obtain ⟨c, hc⟩ : ∃ c, c = q % 2 := ⟨_, rfl⟩
 have hc1 : c ≤ 1 := by omega
 have Og : j < 8 := by omega
 have N2 : q ≤ n := by rw [hq]; exact Nat.div_le_self _ _
 have hp' : p < bs.length := by omega
 have e1 : bs.getD p 0 = bs[p] := by rw [List.getD_eq_getElem?_getD, List.getElem?_eq_getElem hp']; rfl
 have hb := bb _ (List.getElem_mem hp')
 have l7 : c * 2 ^ j < 256 := by
  have : 2 ^ j ≤ 2 ^ 7 := Nat.pow_le_pow_right (by omega) (by omega)
  have : c * 2 ^ j ≤ 1 * 2 ^ 7 := Nat.mul_le_mul hc1 this
  omega
 have vg := wZ hb hc1 Og
 have hS : setB bs a (n / 2 ^ k % 2) = bs.set p (bs[p] ||| c * 2 ^ j) := by rw [← hq, ← hc, setB, ← hp, ← hj, e1]
 rw [hS]
 have f1 := @zX H (ns ++ [.box 3 [.int .i64 n]]) bs m
 have f2 := KP (H := H) (ns := ns ++ [.box 3 [.int .i64 n]]) hm
 have f3 := @GX H ns bs m (.int .i64 n)
 have f4 := KO (H := H) (ns := ns ++ [.box 3 [.int .i64 n]]) hm (i := p) (by omega) (bs[p] ||| c * 2 ^ j)
 have f5 : fin (ph H bs m (ns ++ [.box 3 [.int .i64 n]])) (ph H (bs.set p (bs[p] ||| c * 2 ^ j)) m (ns ++ [.box 3 [.int .i64 n]])) [] = _ := Dm (by rw [nM, nM])
 have z1 : IntKind.i64.wrap ((a : Int) / 8) = (p : Int) := wr
 have z2 : ((a : Int)).tmod 8 = (j : Int) := by rw [Int.tmod_eq_emod_of_nonneg (by omega)]; omega
 have z3 : ((n : Int)).fdiv (2 ^ min k IntKind.i64.bits) = (q : Int) := by
  rw [show min k IntKind.i64.bits = k from Nat.min_eq_left (by simp [IntKind.bits]; omega), show (2 : Int) ^ k = ((2 ^ k : Nat) : Int) by simp, Int.fdiv_eq_ediv_of_nonneg _ (Int.natCast_nonneg _), hq]
  rfl
 have z4 : IntKind.i64.wrap ((q % 2 ^ IntKind.i64.bits &&& 1 % 2 ^ IntKind.i64.bits : Nat) : Int) = (c : Int) := by
  rw [show 2 ^ IntKind.i64.bits = 18446744073709551616 from rfl, Nat.mod_eq_of_lt (by omega), show 1 % 18446744073709551616 = 2 ^ 1 - 1 from rfl, Nat.and_two_pow_sub_one_eq_mod, wrap64 _ (by omega) (by omega), hc]
 have z5 : IntKind.u8.wrap (c : Int) = (c : Int) := gb (by omega)
 have z6 : IntKind.u8.wrap ((c : Int) * 2 ^ min j IntKind.u8.bits) = ((c * 2 ^ j : Nat) : Int) := by
  rw [show min j IntKind.u8.bits = j from Nat.min_eq_left (by simp [IntKind.bits]; omega), show (2 : Int) ^ j = ((2 ^ j : Nat) : Int) by simp, ← Int.natCast_mul, gb l7]
 have d0 : ¬ (j : Int) < 0 := by omega
 have d1 : ¬ (k : Int) < 0 := by omega
 generalize c * 2 ^ j = cj at *
 have z7 : IntKind.u8.wrap ((bs[p] % 2 ^ IntKind.u8.bits ||| cj % 2 ^ IntKind.u8.bits : Nat) : Int) = ((bs[p] ||| cj : Nat) : Int) := by
  rw [show 2 ^ IntKind.u8.bits = 256 from rfl, Nat.mod_eq_of_lt hb, Nat.mod_eq_of_lt l7, gb vg]
 generalize ph H bs m (ns ++ [.box 3 [.int .i64 n]]) = P1 at *
 generalize bs[p] ||| cj = ob at *
 generalize ph H (bs.set p ob) m (ns ++ [.box 3 [.int .i64 n]]) = P2 at *
 rw [ZO (X := X) _ Jz _ rfl rfl]; unfold Jz
 (repeat (first | rw [ZL] | rw [Zs (by simp [ZF, Zy, ZA, ZB, Zp, Zf, Zm, Zi, Zk, Zc, Zd, Zj, Zq, Zr, ZC, ↓Zh, Zo, Zg, Zz, Zu, Zt, ZR, Zv, Yj, put, lk, Od.v, Za, Ze, Zl, Yv, Yb, Ya, Yd, ai, Yt, DV.isU, DV.cells, ae, ZJ, ZX, ZK, Zn, splice, DV.one, ZM, af, ZT, Ys, f1, f2, f3, f4, z1, z2, z3, z4, z5, z6, z7, d0, d1, ay, hp']; exact ⟨rfl, rfl⟩)] | rw [Yi (by simp [lk, Za, Od.v, f1, f2, f3, f4, z1, z2, z3, z4, z5, z6, z7, d0, d1, ay, hp']; exact rfl)] | rw [Zu] | rw [Zt] | rw [ZY] | rw [Yo] | rw [Ye] | rw [Yl] | rw [Yg] | rw [Yf] | rw [ZU] | rw [ZP] | rw [ZQ] | rw [ZI (by decide)] | rw [ZN] | rw [ZG] | rw [ZH] | rw [ZE (by decide)] | rw [Yq] | rw [Ym (by simp [ZF, Zy, ZA, ZB, Zp, Zf, Zm, Zi, Zk, Zc, Zd, Zj, Zq, Zr, ZC, ↓Zh, Zo, Zg, Zz, Zu, Zt, ZR, Zv, Yj, put, lk, Od.v, Za, Ze, Zl, Yv, Yb, Ya, Yd, ai, Yt, DV.isU, DV.cells, ae, ZJ, ZX, ZK, Zn, splice, DV.one, ZM, af, ZT, Ys, f1, f2, f3, f4, z1, z2, z3, z4, z5, z6, z7, d0, d1, ay, hp']; exact ⟨rfl, rfl⟩)] | rw [Yp (by simp [lk, Za, Od.v, f1, f2, f3, f4, z1, z2, z3, z4, z5, z6, z7, d0, d1, ay, hp']; exact rfl)] | rw [Yk]))
 rw [ZV]
 simp only [Yc, Option.map_some, f5]
end Go.Proofs.YteekbciaggmfgaaDoor
namespace Go.Proofs.YteekbciaggmfgaaDoor
attribute [local go_sem] ZF Zy ZA ZB Zp Zf Zm Zi Zk Zc Zd Zj Zq Zr ZC Zo Zg Zz Zu Zt ZR Zv Yj put lk Od.v Za Ze Zl Yv Yb Ya Yd ai Yt DV.isU DV.cells ae ZJ ZX ZK Zn splice ZM af ZT Ys bz bR bL bf bP bu aZ bn bN bg bQ bj bq bh bU bV bK aQ aR
attribute [local go_sem ↓] Zh
set_option linter.unusedVariables false
set_option linter.unusedSimpArgs false
set_option maxRecDepth 10000
theorem CP (w : Nat) (l : List Nat) (i : Nat) (bs : List Nat) (h : i < l.length) : gy w (l.take (i + 1)) 0 bs = kR w i l[i] w (gy w (l.take i) 0 bs) := by
 rw [← List.take_append_getElem h, uS]
 congr 1
 simp; omega
theorem GY (H : Zb) (bs : List Nat) (m : Nat) (ns l : Zb) : ph H bs m ns ++ l = ph H bs m (ns ++ l) := by simp [ph]
theorem Hr {H : Zb} {L : DV} {l : List Nat} {w m : Nat} (hL : ∀ G, vw (H ++ G) 1 L = some (l.map iD)) (hw : w ≤ 62) (hb : l.length ≤ 4096) (hl : ∀ n ∈ l, n < 256 ∧ wN n ≤ w) (hm : (l.length * w + 7) / 8 = m) {B0 : List Nat} (hB : B0.length = m) (bB : BB B0) :
 ∀ (k i : Nat) (ns : Zb), l.length - i ≤ k → i ≤ l.length → ∃ y ex Lg, C X (.loop oh) [(1, .int .i64 w), (6, .ref (H.length + 1) 0), (22, L), (23, .int .i64 l.length), (24, .int .i64 i)] (ph H (gy w (l.take i) 0 B0) m ns) =
  some (.exit 1, (1, .int .i64 w) :: (6, .ref (H.length + 1) 0) :: (22, L) :: (23, .int .i64 l.length) :: (24, y) :: ex, ph H (gy w l 0 B0) m Lg) := by
 intro k
 induction k with
 | zero =>
  intro i ns hk hi
  obtain rfl : i = l.length := by omega
  rw [List.take_length]
  refine ⟨.int .i64 l.length, [(25, .bool false)], ns, ?_⟩
  generalize ph H (gy w l 0 B0) m ns = P
  rw [Zx]
  unfold oh
  refine rn trivial ?_
  rw [ZS]
  simp [Za, lk]
 | succ k ih =>
  intro i ns hk hi
  by_cases c : i < l.length
  ·obtain ⟨I, hI⟩ : ∃ I, I = i + 1 := ⟨_, rfl⟩
   have z1 : IntKind.i64.wrap ((i : Int) + 1) = (I : Int) := wr
   obtain ⟨hn, hwn⟩ := hl _ (List.getElem_mem c)
   have ht := CP w l i B0 c
   have xy : (gy w (l.take i) 0 B0).length = m := by rw [se, hB]
   have hbb := uT w (l.take i) 0 bB
   have lX : l[i]? = some l[i] := List.getElem?_eq_getElem c
   have hpl : i * w + w ≤ l.length * w := by rw [← Nat.succ_mul]; exact Nat.mul_le_mul_right w c
   have Oc : l.length * w ≤ 4096 * 62 := Nat.mul_le_mul hb hw
   rw [hI.symm] at ht
   have fT := ih I (ns ++ [.box 3 [.int .i64 l[i]]]) (by omega) (by omega)
   rw [ht] at fT
   generalize gy w (l.take i) 0 B0 = bs at *
   obtain ⟨n, hnn⟩ : ∃ n, n = l[i] := ⟨_, rfl⟩
   rw [← hnn] at hn hwn fT lX
   have gE := Ec (f := 73) (w := w) (i := i) (cap := [.ref (H.length + 1) 0, .ref (H.length + 2 + ns.length) 0]) (S := fun k => ph H (kR w i n k bs) m (ns ++ [.box 3 [.int .i64 n]])) hw (by omega)
    (fun k hk => Km (by rw [lC]; exact xy) (uU w i n k hbb) (by omega) (by omega) (by omega) hn) (by rw [nM, nM])
   simp only [kR] at gE
   have Ni := Eg n hn
   have hv : ∀ G, vw (ph H bs m ns ++ G) 1 L = some (l.map iD) := fun G => by rw [ph, List.append_assoc]; exact hL _
   have hv0 : vw (ph H bs m ns) 1 L = some (l.map iD) := by have := hv []; rwa [List.append_nil] at this
   have hq : (ph H bs m ns).length = H.length + 2 + ns.length := nM
   have ha : ∀ x, ph H bs m ns ++ [x] = ph H bs m (ns ++ [x]) := fun x => GY _ _ _ _ _
   have hg := @GX H ns bs m (.int .i64 n)
   have hs : ∀ x y, (ph H bs m (ns ++ [x])).set (H.length + 2 + ns.length) y = ph H bs m (ns ++ [y]) := fun x y => by
    rw [← ha, ← ha, ← hq, ZK]; rfl
   have hg0 : ∀ x, (ph H bs m (ns ++ [x]))[H.length + 2 + ns.length]? = some x := fun x => by
    rw [← ha, ← hq, ZJ]; rfl
   have C4 := hnn.symm
   have d0 : ¬ (n : Int) < 0 := by omega
   have d1 : ¬ (w : Int) < (wN n : Int) := by omega
   have d2 : ¬ w < wN n := by omega
   have hc : C X oh [(1, .int .i64 w), (6, .ref (H.length + 1) 0), (22, L), (23, .int .i64 l.length), (24, .int .i64 i)] (ph H bs m ns) = some (.norm, [(1, .int .i64 w), (6, .ref (H.length + 1) 0), (22, L), (23, .int .i64 l.length), (24, .int .i64 I)], ph H (kR w i n w bs) m (ns ++ [.box 3 [.int .i64 n]])) := by
    clear ih fT hL hl hm hB bB ht
    generalize wN n = wn at *
    generalize ph H (kR w i n w bs) m (ns ++ [.box 3 [.int .i64 n]]) = P2 at *
    generalize H.length + 2 + ns.length = qq at *
    unfold oh
    refine aT (zc @c @z1 @hv0 @hv @hq @ha @hs @hg0 @Ni @gE @d0 @d1 @d2 @lX @C4) ?_
    simp [Za, lk]
   rw [Zx, hc, ZZ]
   exact fT
  ·exact ih i ns (by omega) hi
theorem Kw {H : Zb} {L : DV} {l : List Nat} {w : Nat} (hL : ∀ G, vw (H ++ G) 1 L = some (l.map iD)) (hw : w ≤ 62) (hb : l.length ≤ 4096) (hl : ∀ n ∈ l, n < 256 ∧ wN n ≤ w) :
 E X 42 [L, .int .i64 w] H = some (.tup [.list 1 ((pack l w).map bD) false, .int .i64 0], H) := by
 have gG := ud w hw H
 have fA := yh l.length w (by omega) hw H
 have hv : vw H 1 L = some (l.map iD) := by have := hL []; rwa [List.append_nil] at this
 obtain ⟨y, ex, ns, hc⟩ := Hr hL hw hb hl rfl (B0 := List.replicate ((l.length * w + 7) / 8) 0) (by simp) (fun x hx => by rw [List.eq_of_mem_replicate hx]; decide) l.length 0 [] (by omega) (by omega)
 have hP : ph H (gy w (l.take 0) 0 (List.replicate ((l.length * w + 7) / 8) 0)) ((l.length * w + 7) / 8) [] = H ++ [.row 5 1 0 (List.replicate ((l.length * w + 7) / 8) (.int .u8 0)), .box 23 [.row H.length 0 0 ((l.length * w + 7) / 8) false]] := by
  simp [ph, gy]
 rw [hP, show ((0 : Nat) : Int) = 0 from rfl] at hc
 have hpl := iZ l w
 have N8 : gy w l 0 (List.replicate ((l.length * w + 7) / 8) 0) = pack l w := rfl
 rw [N8] at hc
 generalize pack l w = pk at *
 have Oc : l.length * w ≤ 4096 * 62 := Nat.mul_le_mul hb hw
 have Il : (l.length * w + 7) / 8 ≤ 100000 := by omega
 generalize (l.length * w + 7) / 8 = m at *
 have m1 : (m : Int) ≤ 140737488355328 := by omega
 have m0 : (0 : Int) ≤ (m : Int) := by omega
 have d0 : ¬ (4096 : Int) < (l.length : Int) := by omega
 have d0' : ¬ 4096 < l.length := by omega
 have hW : Wc 1 (.int .u8 0) := by simp [Wc, DV.cells, DV.one]
 rw [ZO (X := X) _ JM _ rfl rfl]; unfold JM
 refine rn (jC @gG @fA @hv @hL @m0 @m1 @d0 @d0' @hW) ?_
 refine aD ?_
 rw [hc]
 have f1 := @zX H ns pk m
 have f2 := @uV H ns pk m
 have f3 : (ph H pk m ns).take H.length = H := by simp [ph]
 have f4 : ∀ x ∈ pk.map bD, Nr x := fun x hx => by
  obtain ⟨n, _, rfl⟩ := List.mem_map.1 hx
  exact .int _ _
 have f5 : 0 + m ≤ (pk.map bD).length := by simp; omega
 have f6 : (pk.map bD).take m = pk.map bD := List.take_of_length_le (by simp; omega)
 refine rn @f1 ?_
 simp [Zw, ZV, Yc, go_sem, fin, aV, aO, bH, cL, dD, f1, f2, f3, hpl]
 rw [if_pos ⟨rfl, f5, f4⟩]
 simp only [f6]
theorem r7 : wN 0 = 0 := rfl
theorem lz (n : Nat) (h : 0 < n) : wN n = wN (n / 2) + 1 := by
 unfold wN Go.Sort.bitsLen
 rw [if_neg (by omega), Nat.log2_def]
 by_cases c : 2 ≤ n
 ·rw [if_pos c, if_neg (by omega)]
 ·rw [if_neg c, if_pos (by omega)]
theorem Ho (h : Zb) : ∀ (n a : Nat), n + a ≤ 1000000 → ∃ y ex, C X (.loop kr) [(3, .int .i64 a), (4, .int .i64 n)] h = some (.exit 0, (3, .int .i64 (a + wN n : Nat)) :: (4, y) :: ex, h) := by
 intro n
 induction n using Nat.strongRecOn with
 | _ n ih =>
  intro a hb
  rcases Nat.eq_zero_or_pos n with rfl | hp
  ·refine ⟨.int .i64 0, [(7, .bool false)], ?_⟩
   rw [r7, Nat.add_zero]
   rw [Zx]
   unfold kr
   refine rn trivial ?_
   rw [ZS]
   simp [Za, lk]
  ·obtain ⟨I, hI⟩ : ∃ I, I = a + 1 := ⟨_, rfl⟩
   have z1 : IntKind.i64.wrap ((a : Int) + 1) = (I : Int) := wr
   obtain ⟨m, hm⟩ : ∃ m, m = n / 2 := ⟨_, rfl⟩
   have z2 : IntKind.i64.wrap ((n : Int) / 2) = (m : Int) := wr
   have p1 : (0 : Int) < (n : Int) := by omega
   obtain ⟨y, ex, hc⟩ := ih m (by omega) I (by omega)
   refine ⟨y, ex, ?_⟩
   have hs : C X kr [(3, .int .i64 a), (4, .int .i64 n)] h = some (.norm, [(3, .int .i64 I), (4, .int .i64 m)], h) := by
    clear ih hc
    unfold kr
    refine rn (d8 @p1 @hp @z1 @z2) ?_
    simp [Za, lk]
   rw [Zx, hs, ZZ, hc, lz n hp, ← hm, hI]
   have : a + 1 + wN m = a + (wN m + 1) := by omega
   rw [this]
theorem Kt (n : Nat) (hn : n ≤ 100000) (h : Zb) : E X 50 [.int .i64 n] h = some (.int .i64 (wN n : Nat), h) := by
 obtain ⟨y, ex, hc⟩ := Ho h n 0 (by omega)
 rw [Nat.zero_add, show ((0 : Nat) : Int) = 0 from rfl] at hc
 generalize wN n = w at *
 rw [ZO (X := X) _ BW _ rfl rfl]; unfold BW
 refine rn trivial ?_
 refine aD ?_
 rw [hc]
 refine rn trivial ?_
 exact re trivial
theorem Gk (h : Zb) : E X 50 [.int .i64 (-1)] h = some (.int .i64 0, h) := by
 have hc : C X (.loop kr) [(3, .int .i64 0), (4, .int .i64 (-1))] h = some (.exit 0, [(3, .int .i64 0), (4, .int .i64 (-1)), (7, .bool false)], h) := by
  rw [Zx]
  unfold kr
  refine rn trivial ?_
  rw [ZS]
  simp [Za, lk]
 rw [ZO (X := X) _ BW _ rfl rfl]; unfold BW
 refine rn trivial ?_
 refine aD ?_
 rw [hc]
 refine rn trivial ?_
 exact re trivial
theorem KE (n : Nat) (hn : n ≤ 100000) (h : Zb) : E X 28 [.int .i64 n] h = some (.int .i64 (wC n : Nat), h) := by
 rcases Nat.eq_zero_or_pos n with rfl | hp
 ·have e := Gk h
  have z : IntKind.i64.wrap (-1) = -1 := by rfl
  have b0 : wC 0 = 0 := rfl
  rw [b0]
  rw [ZO (X := X) _ B9 _ rfl rfl]; unfold B9; exact rg (cC @e @z)
 ·obtain ⟨k, hk⟩ : ∃ k, k = n - 1 := ⟨_, rfl⟩
  have e := Kt k (by omega) h
  have z : IntKind.i64.wrap ((n : Int) - 1) = (k : Int) := wr
  have b0 : wC n = wN k := by rw [hk]; rfl
  rw [b0]
  rw [ZO (X := X) _ B9 _ rfl rfl]; unfold B9; exact rg (cC @e @z)
theorem G9 {H : Zb} (n w : Nat) (hw : w ≤ 62) (hn : n ≤ 1000000) :
 ∀ (m k : Nat) (o : DV) (h : Zb), w - k ≤ m → k ≤ w → jg h H o (eA n k) → ∃ x o' h' y ex, C X (.loop nX) [(0, .int .i64 (n / 2 ^ k : Nat)), (1, .int .i64 w), (5, o), (6, .int .i64 k)] h = some (.exit 0, (0, x) :: (1, .int .i64 w) :: (5, o') :: (6, y) :: ex, h') ∧ jg h' H o' (eA n w) := by
 intro m
 induction m with
 | zero =>
  intro k o h hm hk hM
  obtain rfl : k = w := by omega
  refine ⟨.int .i64 (n / 2 ^ k : Nat), o, h, .int .i64 k, [(9, .bool false)], ?_, hM⟩
  rw [Zx]
  generalize n / 2 ^ k = q
  unfold nX
  refine rn trivial ?_
  rw [ZS]
  simp [Za, lk]
 | succ m ih =>
  intro k o h hm hk hM
  by_cases c : k < w
  ·obtain ⟨K, hK⟩ : ∃ K, K = k + 1 := ⟨_, rfl⟩
   have z1 : IntKind.i64.wrap ((k : Int) + 1) = (K : Int) := wr
   have lj : eA n K = eA n k ++ [n / 2 ^ k % 2] := by rw [hK]; simp [eA, List.range_succ]
   have hdiv : n / 2 ^ K = n / 2 ^ k / 2 := by rw [hK, Nat.pow_succ, Nat.div_div_eq_div_mul]
   have N2 : n / 2 ^ k ≤ n := Nat.div_le_self _ _
   obtain ⟨o2, h2, ha, xB⟩ := hM.app (by rw [i6]; omega) (n / 2 ^ k % 2)
   rw [← lj] at xB
   have hv := hM.vw []
   rw [List.append_nil] at hv
   have fT := ih K o2 h2 (by omega) (by omega) xB
   rw [hdiv] at fT
   obtain ⟨x, o', h', y, ex, hc, oJ⟩ := fT
   refine ⟨x, o', h', y, ex, ?_, oJ⟩
   generalize n / 2 ^ k = q at *
   obtain ⟨r, hr⟩ : ∃ r, r = q % 2 := ⟨_, rfl⟩
   obtain ⟨q2, hq2⟩ : ∃ q2, q2 = q / 2 := ⟨_, rfl⟩
   rw [← hr] at ha
   rw [← hq2] at hc
   have z2 : ((q : Int)).tmod 2 = (r : Int) := by rw [Int.tmod_eq_emod_of_nonneg (by omega)]; omega
   have z3 : IntKind.i64.wrap ((q : Int) / 2) = (q2 : Int) := wr
   have y1 : ∀ (a : Int) h, cM [.int .i64 a] h = some ([.int .i64 a], h) := fun _ _ => rfl
   have y2 : ∀ a, Wc 1 (.int .i64 a) := fun a => by simp [Wc, DV.cells, DV.one]
   have y3 : ∀ a, Nr (.int .i64 a) := fun a => .int _ _
   have y4 : ∀ (a : Int) h, aJ h 1 (.list 1 [.int .i64 a] true) = some [.int .i64 a] := fun _ _ => rfl
   have hs : C X nX [(0, .int .i64 q), (1, .int .i64 w), (5, o), (6, .int .i64 k)] h = some (.norm, [(0, .int .i64 q2), (1, .int .i64 w), (5, o2), (6, .int .i64 K)], h2) := by
    clear ih hc hM xB oJ lj hdiv
    generalize eA n k = nk at *
    unfold nX
    refine rn (eY @c @z1 @z2 @z3 @y1 @y2 @y3 @y4 @hv @ha) ?_
    simp [Za, lk]
   rw [Zx, hs, ZZ]
   exact hc
  ·exact ih k o h (by omega) hk hM
theorem Kk {H : Zb} (n w : Nat) (hw : w ≤ 62) (hn : n ≤ 1000000) : ∃ d, E X 77 [.int .i64 n, .int .i64 w] H = some (d, H) ∧ LD d (eA n w) := by
 obtain ⟨x, o', h', y, ex, hc, hM⟩ := G9 (H := H) n w hw hn w 0 .nils H (by omega) (by omega) (.inl ⟨rfl, rfl, rfl⟩)
 obtain ⟨d, hf, hD⟩ := Bu hM
 refine ⟨d, ?_, hD⟩
 rw [Nat.pow_zero, Nat.div_one, show ((0 : Nat) : Int) = 0 from rfl] at hc
 rw [ZO (X := X) _ Jw _ rfl rfl]; unfold Jw
 refine rn trivial ?_
 refine aD ?_
 rw [hc]
 refine rn trivial ?_
 simp only [Zw, Yc, lk, Za, List.map_cons, List.map_nil, reduceIte, Option.map_some, hf]
theorem Fe {l : List Nat} (h : ∀ b ∈ l, b ≤ 1) {k : Nat} (hl : l.length ≤ k) : ec l < 2 ^ k := Nat.lt_of_lt_of_le (wQ l h) (Nat.pow_le_pow_right (by omega) hl)
theorem Hp {h : Zb} {L : DV} {l : List Nat} (hL : vw h 1 L = some (l.map iD)) (hl : ∀ b ∈ l, b ≤ 1) (hb : l.length ≤ 61) :
 ∀ (j : Nat), j ≤ l.length → ∃ y ex, C X (.loop oe) [(0, L), (3, .int .i64 (ec (l.drop j) : Nat)), (4, .int .i64 ((j : Int) - 1))] h = some (.exit 0, (0, L) :: (3, .int .i64 (ec l : Nat)) :: (4, y) :: ex, h) := by
 intro j
 induction j with
 | zero =>
  intro _
  refine ⟨.int .i64 (-1), [(9, .bool false)], ?_⟩
  rw [List.drop_zero, show ((0 : Nat) : Int) - 1 = -1 from rfl]
  rw [Zx]
  generalize ec l = v
  unfold oe
  refine rn trivial ?_
  rw [ZS]
  simp [Za, lk]
 | succ j ih =>
  intro hj
  have c : j < l.length := by omega
  have hd : l.drop j = l[j] :: l.drop (j + 1) := by rw [List.drop_eq_getElem_cons c]
  have hv : ec (l.drop j) = 2 * ec (l.drop (j + 1)) + l[j] := by rw [hd, ec]
  have h1 : ec (l.drop j) < 2 ^ 61 := Fe (fun b hb => hl b (List.mem_of_mem_drop hb)) (by rw [List.length_drop]; omega)
  have hle := hl _ (List.getElem_mem c)
  obtain ⟨y, ex, hc⟩ := ih (by omega)
  refine ⟨y, ex, ?_⟩
  rw [hv] at hc h1
  generalize ec (l.drop (j + 1)) = v at *
  obtain ⟨x, hx⟩ : ∃ x, x = l[j] := ⟨_, rfl⟩
  rw [← hx] at hc hv h1 hle
  have hx' := hx.symm
  obtain ⟨u, hu⟩ : ∃ u, u = 2 * v := ⟨_, rfl⟩
  rw [← hu] at hc h1
  obtain ⟨t, ht⟩ : ∃ t, t = u + x := ⟨_, rfl⟩
  rw [← ht] at hc h1
  have z1 : IntKind.i64.wrap (2 * (v : Int)) = (u : Int) := wr
  have z2 : IntKind.i64.wrap ((u : Int) + (x : Int)) = (t : Int) := wr
  obtain ⟨J, hJ⟩ : ∃ J : Int, J = (j : Int) - 1 := ⟨_, rfl⟩
  have z3 : IntKind.i64.wrap ((j : Int) - 1) = J := wr
  have e1 : ((j + 1 : Nat) : Int) - 1 = (j : Int) := by omega
  rw [e1]
  rw [← hJ] at hc
  have hs : C X oe [(0, L), (3, .int .i64 v), (4, .int .i64 j)] h = some (.norm, [(0, L), (3, .int .i64 t), (4, .int .i64 J)], h) := by
   clear ih hc hv hd hl
   unfold oe
   refine aT (jP @c @z1 @z2 @z3 @hL @hx') ?_
   simp [Za, lk]
  rw [Zx, hs, ZZ]
  exact hc
theorem Ek {h : Zb} {L : DV} {l : List Nat} (hL : vw h 1 L = some (l.map iD)) (hl : ∀ b ∈ l, b ≤ 1) (hb : l.length ≤ 61) : E X 49 [L] h = some (.int .i64 (ec l : Nat), h) := by
 obtain ⟨y, ex, hc⟩ := Hp hL hl hb l.length (Nat.le_refl _)
 rw [List.drop_length, show ((ec [] : Nat) : Int) = 0 from rfl] at hc
 obtain ⟨J, hJ⟩ : ∃ J : Int, J = (l.length : Int) - 1 := ⟨_, rfl⟩
 have z3 : IntKind.i64.wrap ((l.length : Int) - 1) = J := wr
 rw [← hJ] at hc
 generalize ec l = v at *
 rw [ZO (X := X) _ JK _ rfl rfl]; unfold JK
 refine rn (cC @hL @z3) ?_
 refine aD ?_
 rw [hc]
 refine rn trivial ?_
 exact re trivial
def Grow (T : Nat) (f : Nat → DV) (H h : Zb) (d : DV) (ws : List Nat) : Prop :=
 h.take H.length = H ∧ ((d = .nils ∧ ws = []) ∨ ∃ g o, d = .row o g 0 ws.length false ∧ H.length ≤ o ∧ h[o]? = some (.row T 1 g (ws.map f)))
section
variable {T : Nat} {f : Nat → DV} {H h : Zb} {d : DV} {ws : List Nat}
theorem Grow.zero : Grow T f H H .nils [] := ⟨List.take_length, .inl ⟨rfl, rfl⟩⟩
theorem fo {H h : Zb} (ht : h.take H.length = H) : H.length ≤ h.length := by
 have := congrArg List.length ht
 rw [List.length_take] at this; omega
theorem Grow.ext (hg : Grow T f H h d ws) (G : Zb) : Grow T f H (h ++ G) d ws := by
 obtain ⟨ht, hr⟩ := hg
 refine ⟨?_, ?_⟩
 ·rw [List.take_append_of_le_length (fo ht)]; exact ht
 ·rcases hr with hr | ⟨g, o, h1, h2, h3⟩
  ·exact .inl hr
  ·exact .inr ⟨g, o, h1, h2, by rw [List.getElem?_append_left (List.getElem?_eq_some_iff.1 h3).1]; exact h3⟩
theorem Grow.keep (hg : Grow T f H h d ws) {h' : Zb} (ht : h'.take h.length = h) : Grow T f H h' d ws := by
 have e : h' = h ++ h'.drop h.length := by
  have := List.take_append_drop h.length h'
  rw [ht] at this; exact this.symm
 rw [e]; exact hg.ext _
theorem Grow.vw (hg : Grow T f H h d ws) (G : Zb) : vw (h ++ G) 1 d = some (ws.map f) := by
 rcases (hg.ext G).2 with ⟨rfl, rfl⟩ | ⟨g, o, rfl, h2, h3⟩
 ·rfl
 ·simp [Go.Proofs.YteekbciaggmfgaaDoor.vw, h3, List.take_of_length_le]
theorem Grow.vw0 (hg : Grow T f H h d ws) : Go.Proofs.YteekbciaggmfgaaDoor.vw h 1 d = some (ws.map f) := by
 have := hg.vw []; rwa [List.append_nil] at this
theorem Grow.app (hg : Grow T f H h d ws) (b : Nat) (ys : List Nat) (hb : (ws.length + ys.length) * b ≤ 140737488355328) : ∃ d' h', aX h T 1 b d (ws.map f) (ys.map f) = some (d', h') ∧ Grow T f H h' d' (ws ++ ys) := by
 by_cases hy : ys = []
 ·subst hy
  exact ⟨d, h, by simp [aX], by rw [List.append_nil]; exact hg⟩
 ·have hy' : ys.map f ≠ [] := by simpa using hy
  have hle : ((ws.map f).length + (ys.map f).length) * b ≤ 140737488355328 := by simpa using hb
  obtain ⟨ht, hr⟩ := hg
  rcases hr with ⟨rfl, rfl⟩ | ⟨g, o, rfl, h2, h3⟩
  ·refine ⟨.row h.length 0 0 ys.length false, h ++ [.row T 1 0 (ys.map f)], ?_, ?_, .inr ⟨0, h.length, by simp, fo ht, by simp⟩⟩
   ·simp only [aX, if_neg hy', List.length_map]
    rw [if_pos hb]
   ·rw [List.take_append_of_le_length (fo ht)]; exact ht
  ·have hlt := (List.getElem?_eq_some_iff.1 h3).1
   refine ⟨.row o (g + 1) 0 (ws.length + ys.length) false, h.set o (.row T 1 (g + 1) (ws.map f ++ ys.map f)), ?_, ?_, .inr ⟨g + 1, o, by simp, h2, ?_⟩⟩
   ·simp only [aX, if_neg hy', List.length_map, h3]
    rw [if_pos hb]
    simp
   ·rw [List.take_set_of_le h2]; exact ht
   ·rw [List.getElem?_set_self hlt, List.map_append]
theorem xG (hg : Grow T f H h d ws) (hf : ∀ x, Nr (f x)) (k : Int) : ∃ R, fin H h [d, .int .i64 k] = (.tup [R, .int .i64 k], H) ∧ ((R = .nils ∧ ws = []) ∨ R = .list 1 (ws.map f) false) := by
 obtain ⟨ht, hr⟩ := hg
 rcases hr with ⟨rfl, rfl⟩ | ⟨g, o, rfl, h2, h3⟩
 ·refine ⟨.nils, ?_, .inl ⟨rfl, rfl⟩⟩
  simp only [fin]
  rw [if_pos ht]
  rfl
 ·refine ⟨.list 1 (ws.map f) false, ?_, .inr rfl⟩
  simp only [fin]
  rw [if_pos ht]
  have hN : ∀ x ∈ ws.map f, Nr x := fun x hx => by
   obtain ⟨n, _, rfl⟩ := List.mem_map.1 hx
   exact hf n
  simp only [bH, aO, aV]
  rw [if_neg (by omega), h3]
  simp only
  rw [if_pos ⟨rfl, by simp, hN⟩]
  simp [List.take_of_length_le]
end
theorem Ck (w : Nat) (l : List Nat) (i : Nat) (h : i < l.length) : bA (l.take (i + 1)) w = bA (l.take i) w ++ eA l[i] w := by
 unfold bA
 rw [← List.take_append_getElem h, List.flatMap_append]
 simp only [List.flatMap_cons, List.flatMap_nil, List.append_nil]
def aC (R : DV) (bs : List Nat) : Prop := (R = .nils ∧ bs = []) ∨ R = .list 1 (bs.map bD) false
theorem aC.vw {R : DV} {bs : List Nat} (h : aC R bs) (g : Zb) : vw g 1 R = some (bs.map bD) := by
 rcases h with ⟨rfl, rfl⟩ | rfl <;> rfl
end Go.Proofs.YteekbciaggmfgaaDoor
