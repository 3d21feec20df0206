/- Plain facts: bytes as bits; numbers of few bits, packed. Ideal runs: numbers of few bits, packed. Ideal runs: bits.Pack. Ideal runs: the document's numbers of few bits. Ideal runs: the document's Pack. Ideal runs: the document's Pack. -/
import Derived.Test.YtmbgfbomgbdjeaaGreatDoorChecked
import Derived.Test.YtmbgfbomgbdjeaaGreatDoorPlainB
import Derived.Test.YtmbgfbomgbdjeaaGreatDoorNod
import Derived.Test.YtmbgfbomgbdjeaaGreatDoorStep
namespace Go.Proofs.YtmbgfbomgbdjeaaGreatDoor
set_option linter.unusedVariables false
set_option linter.unusedSimpArgs false
def BB (bs : List Nat) : Prop := ∀ x ∈ bs, x < 256
def bitB (bs : List Nat) (q : Nat) : Bool := (bs.getD (q / 8) 0).testBit (q % 8)
def setB (bs : List Nat) (a c : Nat) : List Nat := bs.set (a / 8) (bs.getD (a / 8) 0 ||| c * 2 ^ (a % 8))
theorem setB_len (bs : List Nat) (a c : Nat) : (setB bs a c).length = bs.length := by simp [setB]
theorem BB.getD {bs : List Nat} (h : BB bs) (k : Nat) : bs.getD k 0 < 256 := by
  rw [List.getD_eq_getElem?_getD]
  cases e : bs[k]? with
  | none => simp
  | some x => exact h x (List.mem_of_getElem? e)
theorem or_byte {b c j : Nat} (hb : b < 256) (hc : c ≤ 1) (hj : j < 8) : b ||| c * 2 ^ j < 256 := by
  have h2 : c * 2 ^ j < 2 ^ 8 := by
    have : 2 ^ j ≤ 2 ^ 7 := Nat.pow_le_pow_right (by omega) (by omega)
    have : c * 2 ^ j ≤ 1 * 2 ^ 7 := Nat.mul_le_mul hc this
    omega
  exact Nat.or_lt_two_pow (n := 8) hb h2
theorem BB.setB {bs : List Nat} (h : BB bs) (a : Nat) {c : Nat} (hc : c ≤ 1) : BB (setB bs a c) := by
  intro x hx
  rcases List.mem_or_eq_of_mem_set hx with hx | rfl
  · exact h x hx
  · exact or_byte (h.getD _) hc (Nat.mod_lt _ (by decide))
theorem bitB_setB {bs : List Nat} {a c : Nat} (h : a / 8 < bs.length) (hc : c ≤ 1) (q : Nat) : bitB (Go.Proofs.YtmbgfbomgbdjeaaGreatDoor.setB bs a c) q = (bitB bs q || (decide (q = a) && decide (c = 1))) := by
  unfold bitB Go.Proofs.YtmbgfbomgbdjeaaGreatDoor.setB
  by_cases hq : q / 8 = a / 8
  · rw [List.getD_eq_getElem?_getD, hq, List.getElem?_set_self h]
    simp only [Option.getD_some]
    rw [Nat.testBit_or]
    congr 1
    rcases (by omega : c = 0 ∨ c = 1) with rfl | rfl
    · simp
    · rw [Nat.one_mul, Nat.testBit_two_pow]
      simp only [decide_true, Bool.and_true]
      apply decide_eq_decide.2
      omega
  · have hne : q ≠ a := fun e => hq (by rw [e])
    rw [List.getD_eq_getElem?_getD, List.getElem?_set_ne (fun e => hq e.symm), ← List.getD_eq_getElem?_getD]
    simp [hne]
/-- Bytes are what their bits are. -/
theorem bytes_ext {xs bs : List Nat} (hl : xs.length = bs.length) (ha : BB xs) (hb : BB bs) (h : ∀ q, bitB xs q = bitB bs q) : xs = bs := by
  apply List.ext_getElem hl
  intro p h1 h2
  apply Nat.eq_of_testBit_eq
  intro j
  have ea : xs.getD p 0 = xs[p] := by rw [List.getD_eq_getElem?_getD, List.getElem?_eq_getElem h1]; rfl
  have eb : bs.getD p 0 = bs[p] := by rw [List.getD_eq_getElem?_getD, List.getElem?_eq_getElem h2]; rfl
  by_cases hj : j < 8
  · have := h (8 * p + j)
    unfold bitB at this
    rw [show (8 * p + j) / 8 = p by omega, show (8 * p + j) % 8 = j by omega, ea, eb] at this
    exact this
  · have la := ha _ (List.getElem_mem h1)
    have lb := hb _ (List.getElem_mem h2)
    have hp : 256 ≤ 2 ^ j := Nat.le_trans (by decide : 256 ≤ 2 ^ 8) (Nat.pow_le_pow_right (by omega) (by omega))
    rw [Nat.testBit_lt_two_pow (by omega), Nat.testBit_lt_two_pow (by omega)]
theorem bit01 (n k : Nat) : decide (n / 2 ^ k % 2 = 1) = n.testBit k := by
  rw [Nat.testBit_eq_decide_div_mod_eq]
/-- One number's bits, the first k of them. -/
def pkE (w i n : Nat) : Nat → List Nat → List Nat
  | 0, bs => bs
  | k + 1, bs => setB (pkE w i n k bs) (i * w + k) (n / 2 ^ k % 2)
theorem pkE_len (w i n : Nat) : ∀ (k : Nat) (bs : List Nat), (pkE w i n k bs).length = bs.length
  | 0, _ => rfl
  | k + 1, bs => by rw [pkE, setB_len, pkE_len w i n k]
theorem pkE_BB (w i n : Nat) : ∀ (k : Nat) {bs : List Nat}, BB bs → BB (pkE w i n k bs)
  | 0, _, h => h
  | k + 1, bs, h => (pkE_BB w i n k h).setB _ (by omega)
theorem pkE_bit (w i n : Nat) : ∀ (k : Nat) (bs : List Nat), i * w + k ≤ 8 * bs.length → ∀ q, bitB (pkE w i n k bs) q = (bitB bs q || (decide (i * w ≤ q) && decide (q < i * w + k) && n.testBit (q - i * w)))
  | 0, bs, _, q => by
    have : (decide (i * w ≤ q) && decide (q < i * w + 0)) = false := by simp
    rw [this]; simp [pkE]
  | k + 1, bs, h, q => by
    rw [pkE, bitB_setB (by rw [pkE_len]; omega) (by omega), pkE_bit w i n k bs (by omega), bit01, Bool.or_assoc]
    congr 1
    by_cases h1 : q = i * w + k
    · subst h1
      have : ¬ i * w + k < i * w + k := by omega
      simp [this]
    · by_cases h2 : q < i * w + k
      · have h3 : q < i * w + (k + 1) := by omega
        simp [h1, h2, h3]
      · have h3 : ¬ q < i * w + (k + 1) := by omega
        simp [h1, h2, h3]
/-- Numbers, from the i-th place on. -/
def pkL (w : Nat) : List Nat → Nat → List Nat → List Nat
  | [], _, bs => bs
  | n :: l, i, bs => pkL w l (i + 1) (pkE w i n w bs)
theorem pkL_len (w : Nat) : ∀ (l : List Nat) (i : Nat) (bs : List Nat), (pkL w l i bs).length = bs.length
  | [], _, _ => rfl
  | n :: l, i, bs => by rw [pkL, pkL_len w l, pkE_len]
theorem pkL_BB (w : Nat) : ∀ (l : List Nat) (i : Nat) {bs : List Nat}, BB bs → BB (pkL w l i bs)
  | [], _, _, h => h
  | n :: l, i, bs, h => pkL_BB w l (i + 1) (pkE_BB w i n w h)
theorem pkL_snoc (w : Nat) : ∀ (l : List Nat) (i n : Nat) (bs : List Nat), pkL w (l ++ [n]) i bs = pkE w (i + l.length) n w (pkL w l i bs)
  | [], i, n, bs => rfl
  | m :: l, i, n, bs => by
    rw [List.cons_append, pkL, pkL_snoc w l, pkL]
    congr 1
    simp; omega
theorem pkL_bit {w : Nat} (hw : 0 < w) : ∀ (l : List Nat) (i : Nat) (bs : List Nat), (i + l.length) * w ≤ 8 * bs.length → ∀ q, bitB (pkL w l i bs) q = (bitB bs q || (decide (i * w ≤ q) && decide (q < (i + l.length) * w) && (l.getD (q / w - i) 0).testBit (q % w)))
  | [], i, bs, _, q => by
    have : (decide (i * w ≤ q) && decide (q < (i + 0) * w)) = false := by simp
    simp only [List.length_nil]
    rw [this]; simp [pkL]
  | n :: l, i, bs, h, q => by
    simp only [List.length_cons] at h ⊢
    have e : (i + 1 + l.length) * w = (i + (l.length + 1)) * w := by congr 1; omega
    have hle : i * w + w ≤ (i + (l.length + 1)) * w := by
      rw [← Nat.succ_mul]; exact Nat.mul_le_mul_right w (by omega)
    rw [pkL, pkL_bit hw l (i + 1) _ (by rw [pkE_len, e]; exact h), pkE_bit w i n w bs (by omega), Bool.or_assoc, e]
    congr 1
    have hs : (i + 1) * w = i * w + w := Nat.succ_mul i w
    by_cases h1 : i * w ≤ q
    · by_cases h2 : q < i * w + w
      · have hd : q / w = i := by
          apply Nat.div_eq_of_lt_le
          · exact h1
          · rw [Nat.succ_mul]; exact h2
        have hm : q % w = q - i * w := by
          have := Nat.div_add_mod q w
          rw [hd, Nat.mul_comm] at this; omega
        have h3 : ¬ (i + 1) * w ≤ q := by omega
        have h4 : q < (i + (l.length + 1)) * w := by omega
        rw [hd, hm, Nat.sub_self]
        simp [h1, h2, h3, h4]
      · have h3 : (i + 1) * w ≤ q := by omega
        have hd : i + 1 ≤ q / w := (Nat.le_div_iff_mul_le hw).2 h3
        rw [show q / w - i = (q / w - (i + 1)) + 1 by omega]
        simp [h1, h2, h3]
    · have h3 : ¬ (i + 1) * w ≤ q := by omega
      simp [h1, h3]
/-- Numbers, packed. -/
def pack (l : List Nat) (w : Nat) : List Nat := pkL w l 0 (List.replicate ((l.length * w + 7) / 8) 0)
theorem pack_len (l : List Nat) (w : Nat) : (pack l w).length = (l.length * w + 7) / 8 := by simp [pack, pkL_len]
theorem pack_BB (l : List Nat) (w : Nat) : BB (pack l w) := pkL_BB w l 0 (fun x hx => by rw [List.eq_of_mem_replicate hx]; decide)
theorem pack_bit (l : List Nat) (w : Nat) (q : Nat) : bitB (pack l w) q = (decide (q < l.length * w) && (l.getD (q / w) 0).testBit (q % w)) := by
  have h0 : ∀ m, bitB (List.replicate m 0) q = false := by
    intro m
    unfold bitB
    rw [List.getD_eq_getElem?_getD, List.getElem?_replicate]
    split <;> simp
  rcases Nat.eq_zero_or_pos w with rfl | hw
  · have : bitB (pack l 0) q = false := by
      unfold bitB
      rw [List.getD_eq_getElem?_getD, List.getElem?_eq_none (by rw [pack_len]; omega)]
      simp
    rw [this]; simp
  · unfold pack
    rw [pkL_bit hw l 0 _ (by simp; omega), h0]
    simp
/-! ### The document's way -/
set_option maxRecDepth 10000
abbrev bD (n : Nat) : DV := .int .u8 (n : Int)
/-- How wide numbers are. -/
def wN (n : Nat) : Nat := Go.Sort.bitsLen n
theorem run92 (n : Nat) (hn : n < 256) (h : Zb) : E X 92 [.int .i64 n] h = some (.int .i64 (wN n : Nat), h) := by
  have e := run116 n hn h
  have m1 := mm_clamp n
  have u1 : IntKind.u64.wrap (n : Int) = (n : Int) := by rw [wrapu, Nat.mod_eq_of_lt (by omega)]
  rw [ZH (X := X) _ b92 _ rfl rfl]; unfold b92; (repeat (first | rw [ZN] | rw [Zo (by simp [ZL, ZD, ZC, ZE, Zs, Zh, Zq, Zk, Zm, Zc, Ze, Zl, Zt, Zu, ZF, ↓Zj, Zr, Zi, ZB, Zx, Zw, ZV, Zz, Yn, put, lk, Od.v, Za, Zg, Zn, rdc, Yd, Ye, Yc, unx, eqk, DV.isU, DV.cells, hget, ZP, Yb, ZO, Zp, splice, DV.one, ZQ, mat, ZW, eqs, e, m1, u1, wN]; exact ⟨rfl, rfl⟩)] | rw [Yj (by simp [lk, Za, Od.v, e, m1, u1, wN]; exact rfl)] | rw [Zx] | rw [Zw] | rw [ZZ] | rw [Yq] | rw [Yf] | rw [Yp] | rw [Yh] | rw [Yg] | rw [ZY] | rw [ZT] | rw [ZU] | rw [ZM (by decide)] | rw [ZR] | rw [ZI] | rw [ZK] | rw [ZG (by decide)] | rw [Yt] | rw [Yr (by simp [ZL, ZD, ZC, ZE, Zs, Zh, Zq, Zk, Zm, Zc, Ze, Zl, Zt, Zu, ZF, ↓Zj, Zr, Zi, ZB, Zx, Zw, ZV, Zz, Yn, put, lk, Od.v, Za, Zg, Zn, rdc, Yd, Ye, Yc, unx, eqk, DV.isU, DV.cells, hget, ZP, Yb, ZO, Zp, splice, DV.one, ZQ, mat, ZW, eqs, e, m1, u1, wN]; exact ⟨rfl, rfl⟩)] | rw [Ys (by simp [lk, Za, Od.v, e, m1, u1, wN]; exact rfl)] | rw [Yo])); simp [Zv, ZS, Ya, ZL, ZD, ZC, ZE, Zs, Zh, Zq, Zk, Zm, Zc, Ze, Zl, Zt, Zu, ZF, ↓Zj, Zr, Zi, ZB, Zx, Zw, ZV, Zz, Yn, put, lk, Od.v, Za, Zg, Zn, rdc, Yd, Ye, Yc, unx, eqk, DV.isU, DV.cells, hget, ZP, Yb, ZO, Zp, splice, DV.one, ZQ, mat, ZW, eqs, fin, fz0, fz1, fzT, fzL, nlt, e, m1, u1, wN]
theorem run92m (h : Zb) : E X 92 [.int .i64 (-1)] h = some (.int .i64 0, h) := by
  have e := run116 0 (by omega) h
  have m1 : mm true .i64 (-1) [.int .i64 0] = some 0 := by rfl
  have u1 : IntKind.u64.wrap (0 : Int) = 0 := by rfl
  have b0 : Go.Sort.bitsLen 0 = 0 := rfl
  rw [b0, show ((0 : Nat) : Int) = 0 from rfl] at e
  rw [ZH (X := X) _ b92 _ rfl rfl]; unfold b92; (repeat (first | rw [ZN] | rw [Zo (by simp [ZL, ZD, ZC, ZE, Zs, Zh, Zq, Zk, Zm, Zc, Ze, Zl, Zt, Zu, ZF, ↓Zj, Zr, Zi, ZB, Zx, Zw, ZV, Zz, Yn, put, lk, Od.v, Za, Zg, Zn, rdc, Yd, Ye, Yc, unx, eqk, DV.isU, DV.cells, hget, ZP, Yb, ZO, Zp, splice, DV.one, ZQ, mat, ZW, eqs, e, m1, u1]; exact ⟨rfl, rfl⟩)] | rw [Yj (by simp [lk, Za, Od.v, e, m1, u1]; exact rfl)] | rw [Zx] | rw [Zw] | rw [ZZ] | rw [Yq] | rw [Yf] | rw [Yp] | rw [Yh] | rw [Yg] | rw [ZY] | rw [ZT] | rw [ZU] | rw [ZM (by decide)] | rw [ZR] | rw [ZI] | rw [ZK] | rw [ZG (by decide)] | rw [Yt] | rw [Yr (by simp [ZL, ZD, ZC, ZE, Zs, Zh, Zq, Zk, Zm, Zc, Ze, Zl, Zt, Zu, ZF, ↓Zj, Zr, Zi, ZB, Zx, Zw, ZV, Zz, Yn, put, lk, Od.v, Za, Zg, Zn, rdc, Yd, Ye, Yc, unx, eqk, DV.isU, DV.cells, hget, ZP, Yb, ZO, Zp, splice, DV.one, ZQ, mat, ZW, eqs, e, m1, u1]; exact ⟨rfl, rfl⟩)] | rw [Ys (by simp [lk, Za, Od.v, e, m1, u1]; exact rfl)] | rw [Yo])); simp [Zv, ZS, Ya, ZL, ZD, ZC, ZE, Zs, Zh, Zq, Zk, Zm, Zc, Ze, Zl, Zt, Zu, ZF, ↓Zj, Zr, Zi, ZB, Zx, Zw, ZV, Zz, Yn, put, lk, Od.v, Za, Zg, Zn, rdc, Yd, Ye, Yc, unx, eqk, DV.isU, DV.cells, hget, ZP, Yb, ZO, Zp, splice, DV.one, ZQ, mat, ZW, eqs, fin, fz0, fz1, fzT, fzL, nlt, e, m1, u1]
/-- The width of a column of so many values. -/
def wC (n : Nat) : Nat := wN (n - 1)
theorem run61 (n : Nat) (hn : n ≤ 256) (h : Zb) : E X 61 [.int .i64 n] h = some (.int .i64 (wC n : Nat), h) := by
  rcases Nat.eq_zero_or_pos n with rfl | hp
  · have e := run92m h
    have z : IntKind.i64.wrap (-1) = -1 := by rfl
    have b0 : wC 0 = 0 := rfl
    rw [b0]
    rw [ZH (X := X) _ b61 _ rfl rfl]; unfold b61; (repeat (first | rw [ZN] | rw [Zo (by simp [ZL, ZD, ZC, ZE, Zs, Zh, Zq, Zk, Zm, Zc, Ze, Zl, Zt, Zu, ZF, ↓Zj, Zr, Zi, ZB, Zx, Zw, ZV, Zz, Yn, put, lk, Od.v, Za, Zg, Zn, rdc, Yd, Ye, Yc, unx, eqk, DV.isU, DV.cells, hget, ZP, Yb, ZO, Zp, splice, DV.one, ZQ, mat, ZW, eqs, e, z]; exact ⟨rfl, rfl⟩)] | rw [Yj (by simp [lk, Za, Od.v, e, z]; exact rfl)] | rw [Zx] | rw [Zw] | rw [ZZ] | rw [Yq] | rw [Yf] | rw [Yp] | rw [Yh] | rw [Yg] | rw [ZY] | rw [ZT] | rw [ZU] | rw [ZM (by decide)] | rw [ZR] | rw [ZI] | rw [ZK] | rw [ZG (by decide)] | rw [Yt] | rw [Yr (by simp [ZL, ZD, ZC, ZE, Zs, Zh, Zq, Zk, Zm, Zc, Ze, Zl, Zt, Zu, ZF, ↓Zj, Zr, Zi, ZB, Zx, Zw, ZV, Zz, Yn, put, lk, Od.v, Za, Zg, Zn, rdc, Yd, Ye, Yc, unx, eqk, DV.isU, DV.cells, hget, ZP, Yb, ZO, Zp, splice, DV.one, ZQ, mat, ZW, eqs, e, z]; exact ⟨rfl, rfl⟩)] | rw [Ys (by simp [lk, Za, Od.v, e, z]; exact rfl)] | rw [Yo])); simp [Zv, ZS, Ya, ZL, ZD, ZC, ZE, Zs, Zh, Zq, Zk, Zm, Zc, Ze, Zl, Zt, Zu, ZF, ↓Zj, Zr, Zi, ZB, Zx, Zw, ZV, Zz, Yn, put, lk, Od.v, Za, Zg, Zn, rdc, Yd, Ye, Yc, unx, eqk, DV.isU, DV.cells, hget, ZP, Yb, ZO, Zp, splice, DV.one, ZQ, mat, ZW, eqs, fin, fz0, fz1, fzT, fzL, nlt, e, z]
  · obtain ⟨k, hk⟩ : ∃ k, k = n - 1 := ⟨_, rfl⟩
    have e := run92 k (by omega) h
    have z : IntKind.i64.wrap ((n : Int) - 1) = (k : Int) := (by rw [wrap64 _ (by omega) (by omega)]; omega)
    have b0 : wC n = wN k := by rw [hk]; rfl
    rw [b0]
    rw [ZH (X := X) _ b61 _ rfl rfl]; unfold b61; (repeat (first | rw [ZN] | rw [Zo (by simp [ZL, ZD, ZC, ZE, Zs, Zh, Zq, Zk, Zm, Zc, Ze, Zl, Zt, Zu, ZF, ↓Zj, Zr, Zi, ZB, Zx, Zw, ZV, Zz, Yn, put, lk, Od.v, Za, Zg, Zn, rdc, Yd, Ye, Yc, unx, eqk, DV.isU, DV.cells, hget, ZP, Yb, ZO, Zp, splice, DV.one, ZQ, mat, ZW, eqs, e, z]; exact ⟨rfl, rfl⟩)] | rw [Yj (by simp [lk, Za, Od.v, e, z]; exact rfl)] | rw [Zx] | rw [Zw] | rw [ZZ] | rw [Yq] | rw [Yf] | rw [Yp] | rw [Yh] | rw [Yg] | rw [ZY] | rw [ZT] | rw [ZU] | rw [ZM (by decide)] | rw [ZR] | rw [ZI] | rw [ZK] | rw [ZG (by decide)] | rw [Yt] | rw [Yr (by simp [ZL, ZD, ZC, ZE, Zs, Zh, Zq, Zk, Zm, Zc, Ze, Zl, Zt, Zu, ZF, ↓Zj, Zr, Zi, ZB, Zx, Zw, ZV, Zz, Yn, put, lk, Od.v, Za, Zg, Zn, rdc, Yd, Ye, Yc, unx, eqk, DV.isU, DV.cells, hget, ZP, Yb, ZO, Zp, splice, DV.one, ZQ, mat, ZW, eqs, e, z]; exact ⟨rfl, rfl⟩)] | rw [Ys (by simp [lk, Za, Od.v, e, z]; exact rfl)] | rw [Yo])); simp [Zv, ZS, Ya, ZL, ZD, ZC, ZE, Zs, Zh, Zq, Zk, Zm, Zc, Ze, Zl, Zt, Zu, ZF, ↓Zj, Zr, Zi, ZB, Zx, Zw, ZV, Zz, Yn, put, lk, Od.v, Za, Zg, Zn, rdc, Yd, Ye, Yc, unx, eqk, DV.isU, DV.cells, hget, ZP, Yb, ZO, Zp, splice, DV.one, ZQ, mat, ZW, eqs, fin, fz0, fz1, fzT, fzL, nlt, e, z]
theorem run91 (n w : Nat) (hn : n ≤ 100000) (hw : w ≤ 62) (h : Zb) : E X 91 [.int .i64 n, .int .i64 w] h = some (.int .i64 ((n * w + 7) / 8 : Nat), h) := by
  have hm : n * w ≤ 100000 * 62 := Nat.mul_le_mul hn hw
  obtain ⟨P, hP⟩ : ∃ P, P = n * w := ⟨_, rfl⟩
  have z1 : IntKind.i64.wrap ((n : Int) * (w : Int)) = (P : Int) := by
    rw [← Int.natCast_mul, ← hP, wrap64 _ (by omega) (by omega)]
  obtain ⟨Q, hQ⟩ : ∃ Q, Q = P + 7 := ⟨_, rfl⟩
  have z2 : IntKind.i64.wrap ((P : Int) + 7) = (Q : Int) := (by rw [wrap64 _ (by omega) (by omega)]; omega)
  obtain ⟨R, hR⟩ : ∃ R, R = Q / 8 := ⟨_, rfl⟩
  have z3 : IntKind.i64.wrap ((Q : Int) / 8) = (R : Int) := (by rw [wrap64 _ (by omega) (by omega)]; omega)
  rw [← hP, ← hQ, ← hR]
  clear hP hQ hR hm
  rw [ZH (X := X) _ b91 _ rfl rfl]; unfold b91; (repeat (first | rw [ZN] | rw [Zo (by simp [ZL, ZD, ZC, ZE, Zs, Zh, Zq, Zk, Zm, Zc, Ze, Zl, Zt, Zu, ZF, ↓Zj, Zr, Zi, ZB, Zx, Zw, ZV, Zz, Yn, put, lk, Od.v, Za, Zg, Zn, rdc, Yd, Ye, Yc, unx, eqk, DV.isU, DV.cells, hget, ZP, Yb, ZO, Zp, splice, DV.one, ZQ, mat, ZW, eqs, z1, z2, z3]; exact ⟨rfl, rfl⟩)] | rw [Yj (by simp [lk, Za, Od.v, z1, z2, z3]; exact rfl)] | rw [Zx] | rw [Zw] | rw [ZZ] | rw [Yq] | rw [Yf] | rw [Yp] | rw [Yh] | rw [Yg] | rw [ZY] | rw [ZT] | rw [ZU] | rw [ZM (by decide)] | rw [ZR] | rw [ZI] | rw [ZK] | rw [ZG (by decide)] | rw [Yt] | rw [Yr (by simp [ZL, ZD, ZC, ZE, Zs, Zh, Zq, Zk, Zm, Zc, Ze, Zl, Zt, Zu, ZF, ↓Zj, Zr, Zi, ZB, Zx, Zw, ZV, Zz, Yn, put, lk, Od.v, Za, Zg, Zn, rdc, Yd, Ye, Yc, unx, eqk, DV.isU, DV.cells, hget, ZP, Yb, ZO, Zp, splice, DV.one, ZQ, mat, ZW, eqs, z1, z2, z3]; exact ⟨rfl, rfl⟩)] | rw [Ys (by simp [lk, Za, Od.v, z1, z2, z3]; exact rfl)] | rw [Yo])); simp [Zv, ZS, Ya, ZL, ZD, ZC, ZE, Zs, Zh, Zq, Zk, Zm, Zc, Ze, Zl, Zt, Zu, ZF, ↓Zj, Zr, Zi, ZB, Zx, Zw, ZV, Zz, Yn, put, lk, Od.v, Za, Zg, Zn, rdc, Yd, Ye, Yc, unx, eqk, DV.isU, DV.cells, hget, ZP, Yb, ZO, Zp, splice, DV.one, ZQ, mat, ZW, eqs, fin, fz0, fz1, fzT, fzL, nlt, z1, z2, z3]
theorem run90 (w : Nat) (hw : w ≤ 62) (h : Zb) : E X 90 [.int .i64 w] h = some (.bool true, h) := by
  have h2 : (w : Int) ≤ 62 := by omega
  rw [ZH (X := X) _ b90 _ rfl rfl]; unfold b90; (repeat (first | rw [ZN] | rw [Zo (by simp [ZL, ZD, ZC, ZE, Zs, Zh, Zq, Zk, Zm, Zc, Ze, Zl, Zt, Zu, ZF, ↓Zj, Zr, Zi, ZB, Zx, Zw, ZV, Zz, Yn, put, lk, Od.v, Za, Zg, Zn, rdc, Yd, Ye, Yc, unx, eqk, DV.isU, DV.cells, hget, ZP, Yb, ZO, Zp, splice, DV.one, ZQ, mat, ZW, eqs, h2, hw]; exact ⟨rfl, rfl⟩)] | rw [Yj (by simp [lk, Za, Od.v, h2, hw]; exact rfl)] | rw [Zx] | rw [Zw] | rw [ZZ] | rw [Yq] | rw [Yf] | rw [Yp] | rw [Yh] | rw [Yg] | rw [ZY] | rw [ZT] | rw [ZU] | rw [ZM (by decide)] | rw [ZR] | rw [ZI] | rw [ZK] | rw [ZG (by decide)] | rw [Yt] | rw [Yr (by simp [ZL, ZD, ZC, ZE, Zs, Zh, Zq, Zk, Zm, Zc, Ze, Zl, Zt, Zu, ZF, ↓Zj, Zr, Zi, ZB, Zx, Zw, ZV, Zz, Yn, put, lk, Od.v, Za, Zg, Zn, rdc, Yd, Ye, Yc, unx, eqk, DV.isU, DV.cells, hget, ZP, Yb, ZO, Zp, splice, DV.one, ZQ, mat, ZW, eqs, h2, hw]; exact ⟨rfl, rfl⟩)] | rw [Ys (by simp [lk, Za, Od.v, h2, hw]; exact rfl)] | rw [Yo])); simp [Zv, ZS, Ya, ZL, ZD, ZC, ZE, Zs, Zh, Zq, Zk, Zm, Zc, Ze, Zl, Zt, Zu, ZF, ↓Zj, Zr, Zi, ZB, Zx, Zw, ZV, Zz, Yn, put, lk, Od.v, Za, Zg, Zn, rdc, Yd, Ye, Yc, unx, eqk, DV.isU, DV.cells, hget, ZP, Yb, ZO, Zp, splice, DV.one, ZQ, mat, ZW, eqs, fin, fz0, fz1, fzT, fzL, nlt, h2, hw]
/-- A call that tells nothing. -/
theorem finU {h h' : Zb} (hl : h'.length = h.length) : fin h h' [] = (.tup [], h') := by
  unfold fin
  split
  · rename_i hd; cases hd
  · split
    · rename_i ht
      rw [List.take_of_length_le (by omega)] at ht
      subst ht
      rfl
    · rfl
theorem loop93 {f w i : Nat} {cap : List DV} {S : Nat → Zb} (hw : w ≤ 62) (hi : i ≤ 100000) (hf : ∀ k, k < w → E X f (.int .i64 (i * w + k : Nat) :: .int .i64 k :: cap) (S k) = some (.tup [], S (k + 1))) :
    ∀ (m k : Nat), w - k ≤ m → k ≤ w → ∃ y ex, C X (.loop lp93_0) [(0, .int .i64 i), (1, .int .i64 w), (2, .func f [] cap), (7, .int .i64 w), (8, .int .i64 k)] (S k) = some (.exit 0, (0, .int .i64 i) :: (1, .int .i64 w) :: (2, .func f [] cap) :: (7, .int .i64 w) :: (8, y) :: ex, S w) := by
  intro m
  induction m with
  | zero =>
    intro k hm hk
    obtain rfl : k = w := by omega
    refine ⟨.int .i64 k, [(9, .bool false)], ?_⟩
    rw [Zf]
    unfold lp93_0
    (repeat (first | rw [ZN] | rw [Zo (by simp [ZL, ZD, ZC, ZE, Zs, Zh, Zq, Zk, Zm, Zc, Ze, Zl, Zt, Zu, ZF, ↓Zj, Zr, Zi, ZB, Zx, Zw, ZV, Zz, Yn, put, lk, Od.v, Za, Zg, Zn, rdc, Yd, Ye, Yc, unx, eqk, DV.isU, DV.cells, hget, ZP, Yb, ZO, Zp, splice, DV.one, ZQ, mat, ZW, eqs]; exact ⟨rfl, rfl⟩)] | rw [Yj (by simp [lk, Za, Od.v]; exact rfl)] | rw [Zx] | rw [Zw] | rw [ZZ] | rw [Yq] | rw [Yf] | rw [Yp] | rw [Yh] | rw [Yg] | rw [ZY] | rw [ZT] | rw [ZU] | rw [ZM (by decide)] | rw [ZR] | rw [ZI] | rw [ZK] | rw [ZG (by decide)] | rw [Yt] | rw [Yr (by simp [ZL, ZD, ZC, ZE, Zs, Zh, Zq, Zk, Zm, Zc, Ze, Zl, Zt, Zu, ZF, ↓Zj, Zr, Zi, ZB, Zx, Zw, ZV, Zz, Yn, put, lk, Od.v, Za, Zg, Zn, rdc, Yd, Ye, Yc, unx, eqk, DV.isU, DV.cells, hget, ZP, Yb, ZO, Zp, splice, DV.one, ZQ, mat, ZW, eqs]; exact ⟨rfl, rfl⟩)] | rw [Ys (by simp [lk, Za, Od.v]; exact rfl)] | rw [Yo]))
    rw [ZA]
    simp [Za, lk]
  | succ m ih =>
    intro k hm hk
    by_cases c : k < w
    · obtain ⟨K, hK⟩ : ∃ K, K = k + 1 := ⟨_, rfl⟩
      have z1 : IntKind.i64.wrap ((k : Int) + 1) = (K : Int) := (by rw [wrap64 _ (by omega) (by omega)]; omega)
      have hmul : i * w ≤ 100000 * 62 := Nat.mul_le_mul hi hw
      have e := hf k c
      obtain ⟨P, hP⟩ : ∃ P, P = i * w := ⟨_, rfl⟩
      have z2 : IntKind.i64.wrap ((i : Int) * (w : Int)) = (P : Int) := by
        rw [← Int.natCast_mul, ← hP, wrap64 _ (by omega) (by omega)]
      obtain ⟨Q, hQ⟩ : ∃ Q, Q = P + k := ⟨_, rfl⟩
      have z3 : IntKind.i64.wrap ((P : Int) + (k : Int)) = (Q : Int) := (by rw [wrap64 _ (by omega) (by omega)]; omega)
      rw [← hP, ← hQ, ← hK] at e
      have hs : C X lp93_0 [(0, .int .i64 i), (1, .int .i64 w), (2, .func f [] cap), (7, .int .i64 w), (8, .int .i64 k)] (S k) = some (.norm, [(0, .int .i64 i), (1, .int .i64 w), (2, .func f [] cap), (7, .int .i64 w), (8, .int .i64 K)], S K) := by
        clear ih hf hP hQ hmul
        generalize S k = s1 at *
        generalize S K = s2 at *
        unfold lp93_0
        (repeat (first | rw [ZN] | rw [Zo (by simp [ZL, ZD, ZC, ZE, Zs, Zh, Zq, Zk, Zm, Zc, Ze, Zl, Zt, Zu, ZF, ↓Zj, Zr, Zi, ZB, Zx, Zw, ZV, Zz, Yn, put, lk, Od.v, Za, Zg, Zn, rdc, Yd, Ye, Yc, unx, eqk, DV.isU, DV.cells, hget, ZP, Yb, ZO, Zp, splice, DV.one, ZQ, mat, ZW, eqs, c, z1, z2, z3, e]; exact ⟨rfl, rfl⟩)] | rw [Yj (by simp [lk, Za, Od.v, c, z1, z2, z3, e]; exact rfl)] | rw [Zx] | rw [Zw] | rw [ZZ] | rw [Yq] | rw [Yf] | rw [Yp] | rw [Yh] | rw [Yg] | rw [ZY] | rw [ZT] | rw [ZU] | rw [ZM (by decide)] | rw [ZR] | rw [ZI] | rw [ZK] | rw [ZG (by decide)] | rw [Yt] | rw [Yr (by simp [ZL, ZD, ZC, ZE, Zs, Zh, Zq, Zk, Zm, Zc, Ze, Zl, Zt, Zu, ZF, ↓Zj, Zr, Zi, ZB, Zx, Zw, ZV, Zz, Yn, put, lk, Od.v, Za, Zg, Zn, rdc, Yd, Ye, Yc, unx, eqk, DV.isU, DV.cells, hget, ZP, Yb, ZO, Zp, splice, DV.one, ZQ, mat, ZW, eqs, c, z1, z2, z3, e]; exact ⟨rfl, rfl⟩)] | rw [Ys (by simp [lk, Za, Od.v, c, z1, z2, z3, e]; exact rfl)] | rw [Yo]))
        simp [Za, lk]
      rw [Zf, hs, ZJ]
      exact ih K (by omega) (by omega)
    · exact ih k (by omega) hk
theorem run93 {f w i : Nat} {cap : List DV} {S : Nat → Zb} (hw : w ≤ 62) (hi : i ≤ 100000) (hf : ∀ k, k < w → E X f (.int .i64 (i * w + k : Nat) :: .int .i64 k :: cap) (S k) = some (.tup [], S (k + 1))) (hl : (S w).length = (S 0).length) :
    E X 93 [.int .i64 i, .int .i64 w, .func f [] cap] (S 0) = some (.tup [], S w) := by
  obtain ⟨y, ex, hc⟩ := loop93 hw hi hf w 0 (by omega) (by omega)
  rw [show ((0 : Nat) : Int) = 0 from rfl] at hc
  have hfin := finU hl
  generalize S 0 = s1 at *
  generalize S w = s2 at *
  rw [ZH (X := X) _ b93 _ rfl rfl]; unfold b93
  (repeat (first | rw [ZN] | rw [Zo (by simp [ZL, ZD, ZC, ZE, Zs, Zh, Zq, Zk, Zm, Zc, Ze, Zl, Zt, Zu, ZF, ↓Zj, Zr, Zi, ZB, Zx, Zw, ZV, Zz, Yn, put, lk, Od.v, Za, Zg, Zn, rdc, Yd, Ye, Yc, unx, eqk, DV.isU, DV.cells, hget, ZP, Yb, ZO, Zp, splice, DV.one, ZQ, mat, ZW, eqs]; exact ⟨rfl, rfl⟩)] | rw [Yj (by simp [lk, Za, Od.v]; exact rfl)] | rw [Zx] | rw [Zw] | rw [ZZ] | rw [Yq] | rw [Yf] | rw [Yp] | rw [Yh] | rw [Yg] | rw [ZY] | rw [ZT] | rw [ZU] | rw [ZM (by decide)] | rw [ZR] | rw [ZI] | rw [ZK] | rw [ZG (by decide)] | rw [Yt] | rw [Yr (by simp [ZL, ZD, ZC, ZE, Zs, Zh, Zq, Zk, Zm, Zc, Ze, Zl, Zt, Zu, ZF, ↓Zj, Zr, Zi, ZB, Zx, Zw, ZV, Zz, Yn, put, lk, Od.v, Za, Zg, Zn, rdc, Yd, Ye, Yc, unx, eqk, DV.isU, DV.cells, hget, ZP, Yb, ZO, Zp, splice, DV.one, ZQ, mat, ZW, eqs]; exact ⟨rfl, rfl⟩)] | rw [Ys (by simp [lk, Za, Od.v]; exact rfl)] | rw [Yo]))
  (try simp only [Za, List.map_cons, List.map_nil, lk, reduceIte, Nat.reduceEqDiff, Nat.zero_ne_one, Nat.one_ne_zero])
  rw [hc]
  (repeat (first | rw [ZN] | rw [Zo (by simp [ZL, ZD, ZC, ZE, Zs, Zh, Zq, Zk, Zm, Zc, Ze, Zl, Zt, Zu, ZF, ↓Zj, Zr, Zi, ZB, Zx, Zw, ZV, Zz, Yn, put, lk, Od.v, Za, Zg, Zn, rdc, Yd, Ye, Yc, unx, eqk, DV.isU, DV.cells, hget, ZP, Yb, ZO, Zp, splice, DV.one, ZQ, mat, ZW, eqs]; exact ⟨rfl, rfl⟩)] | rw [Yj (by simp [lk, Za, Od.v]; exact rfl)] | rw [Zx] | rw [Zw] | rw [ZZ] | rw [Yq] | rw [Yf] | rw [Yp] | rw [Yh] | rw [Yg] | rw [ZY] | rw [ZT] | rw [ZU] | rw [ZM (by decide)] | rw [ZR] | rw [ZI] | rw [ZK] | rw [ZG (by decide)] | rw [Yt] | rw [Yr (by simp [ZL, ZD, ZC, ZE, Zs, Zh, Zq, Zk, Zm, Zc, Ze, Zl, Zt, Zu, ZF, ↓Zj, Zr, Zi, ZB, Zx, Zw, ZV, Zz, Yn, put, lk, Od.v, Za, Zg, Zn, rdc, Yd, Ye, Yc, unx, eqk, DV.isU, DV.cells, hget, ZP, Yb, ZO, Zp, splice, DV.one, ZQ, mat, ZW, eqs]; exact ⟨rfl, rfl⟩)] | rw [Ys (by simp [lk, Za, Od.v]; exact rfl)] | rw [Yo]))
  rw [ZS]
  simp only [Ya, Option.map_some, hfin]
/-- The bytes that are made, and the numbers that went. -/
def ph (H : Zb) (bs : List Nat) (m : Nat) (ns : Zb) : Zb := H ++ (.row 5 1 0 (bs.map bD) :: .box 68 [.row H.length 0 0 m false] :: ns)
section
variable {H ns : Zb} {bs : List Nat} {m : Nat}
theorem ph_box : (ph H bs m ns)[H.length + 1]? = some (.box 68 [.row H.length 0 0 m false]) := by simp [ph, hget]
theorem ph_row : (ph H bs m ns)[H.length]? = some (.row 5 1 0 (bs.map bD)) := by simp [ph]
theorem ph_n (n : DV) : (ph H bs m (ns ++ [.box 3 [n]]))[H.length + 2 + ns.length]? = some (.box 3 [n]) := by
  rw [ph, List.getElem?_append_right (by omega), show H.length + 2 + ns.length - H.length = ns.length + 1 + 1 by omega, List.getElem?_cons_succ, List.getElem?_cons_succ, List.getElem?_append_right (by omega)]
  simp
theorem ph_vw (hm : bs.length = m) : vw (ph H bs m ns) 1 (.row H.length 0 0 m false) = some (bs.map bD) := by
  subst hm; simp [vw, ph_row, List.take_of_length_le]
theorem ph_wr (hm : bs.length = m) {i : Nat} (hi : i < m) (x : Nat) : stx (ph H bs m ns) 1 (.elem (.row H.length 0 0 m false) 1 i 0) (.int .u8 x) = some (ph H (bs.set i x) m ns) := by
  subst hm
  have h1 : (ph H bs bs.length ns)[H.length]? = some (.row 5 1 0 (bs.map bD)) := ph_row
  have h2 : (bs.map bD)[i]? = some (bD bs[i]) := by simp [List.getElem?_eq_getElem hi]
  rw [stx, if_pos (by simp [DV.cells, DV.one])]
  simp only [h1]
  rw [if_pos (by simp [hi])]
  simp only [Nat.zero_add, h2]
  simp [eput, DV.one, ph, Yb]
theorem ph_len : (ph H bs m ns).length = H.length + 2 + ns.length := by simp [ph]; omega
end
theorem wrap8 {n : Nat} (h : n < 256) : IntKind.u8.wrap (n : Int) = (n : Int) := by
  simp [IntKind.wrap, IntKind.bits, IntKind.signed]
  omega
theorem run94 {H ns : Zb} {bs : List Nat} {m n a k : Nat} (hm : bs.length = m) (bb : BB bs) (ha : a / 8 < m) (ha' : a < 10000000) (hk : k ≤ 62) (hn : n < 256) :
    E X 94 [.int .i64 a, .int .i64 k, .ref (H.length + 1) 0, .ref (H.length + 2 + ns.length) 0] (ph H bs m (ns ++ [.box 3 [.int .i64 n]])) = some (.tup [], ph H (setB bs a (n / 2 ^ k % 2)) m (ns ++ [.box 3 [.int .i64 n]])) := by
  obtain ⟨p, hp⟩ : ∃ p, p = a / 8 := ⟨_, rfl⟩
  obtain ⟨j, hj⟩ : ∃ j, j = a % 8 := ⟨_, rfl⟩
  obtain ⟨q, hq⟩ : ∃ q, q = n / 2 ^ k := ⟨_, rfl⟩
  obtain ⟨c, hc⟩ : ∃ c, c = q % 2 := ⟨_, rfl⟩
  have hc1 : c ≤ 1 := by omega
  have hj8 : j < 8 := by omega
  have hqn : q ≤ n := by rw [hq]; exact Nat.div_le_self _ _
  have hp' : p < bs.length := by omega
  have e1 : bs.getD p 0 = bs[p] := by rw [List.getD_eq_getElem?_getD, List.getElem?_eq_getElem hp']; rfl
  have hb := bb _ (List.getElem_mem hp')
  have hcj : c * 2 ^ j < 256 := by
    have : 2 ^ j ≤ 2 ^ 7 := Nat.pow_le_pow_right (by omega) (by omega)
    have : c * 2 ^ j ≤ 1 * 2 ^ 7 := Nat.mul_le_mul hc1 this
    omega
  have hob := or_byte hb hc1 hj8
  have hS : setB bs a (n / 2 ^ k % 2) = bs.set p (bs[p] ||| c * 2 ^ j) := by rw [← hq, ← hc, setB, ← hp, ← hj, e1]
  rw [hS]
  have f1 := @ph_box H (ns ++ [.box 3 [.int .i64 n]]) bs m
  have f2 := ph_vw (H := H) (ns := ns ++ [.box 3 [.int .i64 n]]) hm
  have f3 := @ph_n H ns bs m (.int .i64 n)
  have f4 := ph_wr (H := H) (ns := ns ++ [.box 3 [.int .i64 n]]) hm (i := p) (by omega) (bs[p] ||| c * 2 ^ j)
  have f5 : fin (ph H bs m (ns ++ [.box 3 [.int .i64 n]])) (ph H (bs.set p (bs[p] ||| c * 2 ^ j)) m (ns ++ [.box 3 [.int .i64 n]])) [] = _ := finU (by rw [ph_len, ph_len])
  have z1 : IntKind.i64.wrap ((a : Int) / 8) = (p : Int) := (by rw [wrap64 _ (by omega) (by omega)]; omega)
  have z2 : ((a : Int)).tmod 8 = (j : Int) := by rw [Int.tmod_eq_emod_of_nonneg (by omega)]; omega
  have z3 : ((n : Int)).fdiv (2 ^ min k IntKind.i64.bits) = (q : Int) := by
    rw [show min k IntKind.i64.bits = k from Nat.min_eq_left (by simp [IntKind.bits]; omega), show (2 : Int) ^ k = ((2 ^ k : Nat) : Int) by simp, Int.fdiv_eq_ediv_of_nonneg _ (Int.natCast_nonneg _), hq]
    rfl
  have z4 : IntKind.i64.wrap ((q % 2 ^ IntKind.i64.bits &&& 1 % 2 ^ IntKind.i64.bits : Nat) : Int) = (c : Int) := by
    rw [show 2 ^ IntKind.i64.bits = 18446744073709551616 from rfl, Nat.mod_eq_of_lt (by omega), show 1 % 18446744073709551616 = 2 ^ 1 - 1 from rfl, Nat.and_two_pow_sub_one_eq_mod, wrap64 _ (by omega) (by omega), hc]
  have z5 : IntKind.u8.wrap (c : Int) = (c : Int) := wrap8 (by omega)
  have z6 : IntKind.u8.wrap ((c : Int) * 2 ^ min j IntKind.u8.bits) = ((c * 2 ^ j : Nat) : Int) := by
    rw [show min j IntKind.u8.bits = j from Nat.min_eq_left (by simp [IntKind.bits]; omega), show (2 : Int) ^ j = ((2 ^ j : Nat) : Int) by simp, ← Int.natCast_mul, wrap8 hcj]
  have d0 : ¬ (j : Int) < 0 := by omega
  have d1 : ¬ (k : Int) < 0 := by omega
  generalize c * 2 ^ j = cj at *
  have z7 : IntKind.u8.wrap ((bs[p] % 2 ^ IntKind.u8.bits ||| cj % 2 ^ IntKind.u8.bits : Nat) : Int) = ((bs[p] ||| cj : Nat) : Int) := by
    rw [show 2 ^ IntKind.u8.bits = 256 from rfl, Nat.mod_eq_of_lt hb, Nat.mod_eq_of_lt hcj, wrap8 hob]
  generalize ph H bs m (ns ++ [.box 3 [.int .i64 n]]) = P1 at *
  generalize bs[p] ||| cj = ob at *
  generalize ph H (bs.set p ob) m (ns ++ [.box 3 [.int .i64 n]]) = P2 at *
  rw [ZH (X := X) _ b94 _ rfl rfl]; unfold b94
  (repeat (first | rw [ZN] | rw [Zo (by simp [ZL, ZD, ZC, ZE, Zs, Zh, Zq, Zk, Zm, Zc, Ze, Zl, Zt, Zu, ZF, ↓Zj, Zr, Zi, ZB, Zx, Zw, ZV, Zz, Yn, put, lk, Od.v, Za, Zg, Zn, rdc, Yd, Ye, Yc, unx, eqk, DV.isU, DV.cells, hget, ZP, Yb, ZO, Zp, splice, DV.one, ZQ, mat, ZW, eqs, f1, f2, f3, f4, z1, z2, z3, z4, z5, z6, z7, d0, d1, ldx, hp']; exact ⟨rfl, rfl⟩)] | rw [Yj (by simp [lk, Za, Od.v, f1, f2, f3, f4, z1, z2, z3, z4, z5, z6, z7, d0, d1, ldx, hp']; exact rfl)] | rw [Zx] | rw [Zw] | rw [ZZ] | rw [Yq] | rw [Yf] | rw [Yp] | rw [Yh] | rw [Yg] | rw [ZY] | rw [ZT] | rw [ZU] | rw [ZM (by decide)] | rw [ZR] | rw [ZI] | rw [ZK] | rw [ZG (by decide)] | rw [Yt] | rw [Yr (by simp [ZL, ZD, ZC, ZE, Zs, Zh, Zq, Zk, Zm, Zc, Ze, Zl, Zt, Zu, ZF, ↓Zj, Zr, Zi, ZB, Zx, Zw, ZV, Zz, Yn, put, lk, Od.v, Za, Zg, Zn, rdc, Yd, Ye, Yc, unx, eqk, DV.isU, DV.cells, hget, ZP, Yb, ZO, Zp, splice, DV.one, ZQ, mat, ZW, eqs, f1, f2, f3, f4, z1, z2, z3, z4, z5, z6, z7, d0, d1, ldx, hp']; exact ⟨rfl, rfl⟩)] | rw [Ys (by simp [lk, Za, Od.v, f1, f2, f3, f4, z1, z2, z3, z4, z5, z6, z7, d0, d1, ldx, hp']; exact rfl)] | rw [Yo]))
  rw [ZS]
  simp only [Ya, Option.map_some, f5]
end Go.Proofs.YtmbgfbomgbdjeaaGreatDoor
namespace Go.Proofs.YtmbgfbomgbdjeaaGreatDoor
attribute [local go_sem] ZL ZD ZC ZE Zs Zh Zq Zk Zm Zc Ze Zl Zt Zu ZF Zr Zi ZB Zx Zw ZV Zz Yn put lk Od.v Za Zg Zn rdc Yd Ye Yc unx eqk DV.isU DV.cells hget ZP Yb ZO Zp splice ZQ mat ZW eqs one_bool one_int one_str one_nilp one_ref one_elem one_nils one_list one_row one_nilm one_map one_nilf one_func one_nili one_ifc one_agg one_tup Yv Yw
attribute [local go_sem ↓] Zj
set_option linter.unusedVariables false
set_option linter.unusedSimpArgs false
set_option maxRecDepth 10000
theorem pkL_take (w : Nat) (l : List Nat) (i : Nat) (bs : List Nat) (h : i < l.length) : pkL w (l.take (i + 1)) 0 bs = pkE w i l[i] w (pkL w (l.take i) 0 bs) := by
  rw [← List.take_append_getElem h, pkL_snoc]
  congr 1
  simp; omega
theorem ph_app (H : Zb) (bs : List Nat) (m : Nat) (ns l : Zb) : ph H bs m ns ++ l = ph H bs m (ns ++ l) := by simp [ph]
theorem loop60 {H : Zb} {L : DV} {l : List Nat} {w m : Nat} (hL : ∀ G, vw (H ++ G) 1 L = some (l.map iD)) (hw : w ≤ 62) (hb : l.length ≤ 4096) (hl : ∀ n ∈ l, n < 256 ∧ wN n ≤ w) (hm : (l.length * w + 7) / 8 = m) {B0 : List Nat} (hB : B0.length = m) (bB : BB B0) :
    ∀ (k i : Nat) (ns : Zb), l.length - i ≤ k → i ≤ l.length → ∃ y ex ns', C X (.loop lp60_0) [(1, .int .i64 w), (6, .ref (H.length + 1) 0), (22, L), (23, .int .i64 l.length), (24, .int .i64 i)] (ph H (pkL w (l.take i) 0 B0) m ns) =
      some (.exit 1, (1, .int .i64 w) :: (6, .ref (H.length + 1) 0) :: (22, L) :: (23, .int .i64 l.length) :: (24, y) :: ex, ph H (pkL w l 0 B0) m ns') := by
  intro k
  induction k with
  | zero =>
    intro i ns hk hi
    obtain rfl : i = l.length := by omega
    rw [List.take_length]
    refine ⟨.int .i64 l.length, [(25, .bool false)], ns, ?_⟩
    generalize ph H (pkL w l 0 B0) m ns = P
    rw [Zf]
    unfold lp60_0
    refine rn trivial ?_
    rw [ZA]
    simp [Za, lk]
  | succ k ih =>
    intro i ns hk hi
    by_cases c : i < l.length
    · obtain ⟨I, hI⟩ : ∃ I, I = i + 1 := ⟨_, rfl⟩
      have z1 : IntKind.i64.wrap ((i : Int) + 1) = (I : Int) := (by rw [wrap64 _ (by omega) (by omega)]; omega)
      obtain ⟨hn, hwn⟩ := hl _ (List.getElem_mem c)
      have ht := pkL_take w l i B0 c
      have hbl : (pkL w (l.take i) 0 B0).length = m := by rw [pkL_len, hB]
      have hbb := pkL_BB w (l.take i) 0 bB
      have hln : l[i]? = some l[i] := List.getElem?_eq_getElem c
      have hpl : i * w + w ≤ l.length * w := by rw [← Nat.succ_mul]; exact Nat.mul_le_mul_right w c
      have hlw : l.length * w ≤ 4096 * 62 := Nat.mul_le_mul hb hw
      rw [hI.symm] at ht
      have hIH := ih I (ns ++ [.box 3 [.int .i64 l[i]]]) (by omega) (by omega)
      rw [ht] at hIH
      generalize pkL w (l.take i) 0 B0 = bs at *
      obtain ⟨n, hnn⟩ : ∃ n, n = l[i] := ⟨_, rfl⟩
      rw [← hnn] at hn hwn hIH hln
      have e103 := run93 (f := 94) (w := w) (i := i) (cap := [.ref (H.length + 1) 0, .ref (H.length + 2 + ns.length) 0]) (S := fun k => ph H (pkE w i n k bs) m (ns ++ [.box 3 [.int .i64 n]])) hw (by omega)
        (fun k hk => run94 (by rw [pkE_len]; exact hbl) (pkE_BB w i n k hbb) (by omega) (by omega) (by omega) hn) (by rw [ph_len, ph_len])
      simp only [pkE] at e103
      have e102 := run92 n hn
      have hv : ∀ G, vw (ph H bs m ns ++ G) 1 L = some (l.map iD) := fun G => by rw [ph, List.append_assoc]; exact hL _
      have hv0 : vw (ph H bs m ns) 1 L = some (l.map iD) := by have := hv []; rwa [List.append_nil] at this
      have hq : (ph H bs m ns).length = H.length + 2 + ns.length := ph_len
      have ha : ∀ x, ph H bs m ns ++ [x] = ph H bs m (ns ++ [x]) := fun x => ph_app _ _ _ _ _
      have hg := @ph_n H ns bs m (.int .i64 n)
      have hs : ∀ x y, (ph H bs m (ns ++ [x])).set (H.length + 2 + ns.length) y = ph H bs m (ns ++ [y]) := fun x y => by
        rw [← ha, ← ha, ← hq, ZO]; rfl
      have hg0 : ∀ x, (ph H bs m (ns ++ [x]))[H.length + 2 + ns.length]? = some x := fun x => by
        rw [← ha, ← hq, ZP]; rfl
      have hnn' := hnn.symm
      have d0 : ¬ (n : Int) < 0 := by omega
      have d1 : ¬ (w : Int) < (wN n : Int) := by omega
      have d2 : ¬ w < wN n := by omega
      have hc : C X lp60_0 [(1, .int .i64 w), (6, .ref (H.length + 1) 0), (22, L), (23, .int .i64 l.length), (24, .int .i64 i)] (ph H bs m ns) = some (.norm, [(1, .int .i64 w), (6, .ref (H.length + 1) 0), (22, L), (23, .int .i64 l.length), (24, .int .i64 I)], ph H (pkE w i n w bs) m (ns ++ [.box 3 [.int .i64 n]])) := by
        clear ih hIH hL hl hm hB bB ht
        generalize wN n = wn at *
        generalize ph H (pkE w i n w bs) m (ns ++ [.box 3 [.int .i64 n]]) = P2 at *
        generalize H.length + 2 + ns.length = qq at *
        unfold lp60_0
        refine rn0 (fA15 @c @z1 @hv0 @hv @hq @ha @hs @hg0 @e102 @e103 @d0 @d1 @d2 @hln @hnn') ?_
        simp [Za, lk]
      rw [Zf, hc, ZJ]
      exact hIH
    · exact ih i ns (by omega) hi
theorem run60 {H : Zb} {L : DV} {l : List Nat} {w : Nat} (hL : ∀ G, vw (H ++ G) 1 L = some (l.map iD)) (hw : w ≤ 62) (hb : l.length ≤ 4096) (hl : ∀ n ∈ l, n < 256 ∧ wN n ≤ w) :
    E X 60 [L, .int .i64 w] H = some (.tup [.list 1 ((pack l w).map bD) false, .int .i64 0], H) := by
  have e100 := run90 w hw H
  have e101 := run91 l.length w (by omega) hw H
  have hv : vw H 1 L = some (l.map iD) := by have := hL []; rwa [List.append_nil] at this
  obtain ⟨y, ex, ns, hc⟩ := loop60 hL hw hb hl rfl (B0 := List.replicate ((l.length * w + 7) / 8) 0) (by simp) (fun x hx => by rw [List.eq_of_mem_replicate hx]; decide) l.length 0 [] (by omega) (by omega)
  have hP : ph H (pkL w (l.take 0) 0 (List.replicate ((l.length * w + 7) / 8) 0)) ((l.length * w + 7) / 8) [] = H ++ [.row 5 1 0 (List.replicate ((l.length * w + 7) / 8) (.int .u8 0)), .box 68 [.row H.length 0 0 ((l.length * w + 7) / 8) false]] := by
    simp [ph, pkL]
  rw [hP, show ((0 : Nat) : Int) = 0 from rfl] at hc
  have hpl := pack_len l w
  have hpd : pkL w l 0 (List.replicate ((l.length * w + 7) / 8) 0) = pack l w := rfl
  rw [hpd] at hc
  generalize pack l w = pk at *
  have hlw : l.length * w ≤ 4096 * 62 := Nat.mul_le_mul hb hw
  have hm1 : (l.length * w + 7) / 8 ≤ 100000 := by omega
  generalize (l.length * w + 7) / 8 = m at *
  have m1 : (m : Int) ≤ 140737488355328 := by omega
  have m0 : (0 : Int) ≤ (m : Int) := by omega
  have d0 : ¬ (4096 : Int) < (l.length : Int) := by omega
  have d0' : ¬ 4096 < l.length := by omega
  have hW : Wc 1 (.int .u8 0) := by simp [Wc, DV.cells, DV.one]
  rw [ZH (X := X) _ b60 _ rfl rfl]; unfold b60
  refine rn (fA9 @e100 @e101 @hv @hL @m0 @m1 @d0 @d0' @hW) ?_
  refine keG ?_
  rw [hc]
  have f1 := @ph_box H ns pk m
  have f2 := @ph_row H ns pk m
  have f3 : (ph H pk m ns).take H.length = H := by simp [ph]
  have f4 : ∀ x ∈ pk.map bD, Nr x := fun x hx => by
    obtain ⟨n, _, rfl⟩ := List.mem_map.1 hx
    exact .int _ _
  have f5 : 0 + m ≤ (pk.map bD).length := by simp; omega
  have f6 : (pk.map bD).take m = pk.map bD := List.take_of_length_le (by simp; omega)
  refine rn @f1 ?_
  simp [Zv, ZS, Ya, go_sem, fin, fz0, fz1, fzT, fzL, nlt, f1, f2, f3, hpl]
  rw [if_pos ⟨rfl, f5, f4⟩]
  simp only [f6]
theorem wN_zero : wN 0 = 0 := rfl
theorem wN_half (n : Nat) (h : 0 < n) : wN n = wN (n / 2) + 1 := by
  unfold wN Go.Sort.bitsLen
  rw [if_neg (by omega), Nat.log2_def]
  by_cases c : 2 ≤ n
  · rw [if_pos c, if_neg (by omega)]
  · rw [if_neg c, if_pos (by omega)]
/-- A list that grows, behind H. -/
def Grow (T : Nat) (f : Nat → DV) (H h : Zb) (d : DV) (ws : List Nat) : Prop :=
  h.take H.length = H ∧ ((d = .nils ∧ ws = []) ∨ ∃ g o, d = .row o g 0 ws.length false ∧ H.length ≤ o ∧ h[o]? = some (.row T 1 g (ws.map f)))
section
variable {T : Nat} {f : Nat → DV} {H h : Zb} {d : DV} {ws : List Nat}
theorem Grow.zero : Grow T f H H .nils [] := ⟨List.take_length, .inl ⟨rfl, rfl⟩⟩
theorem take_le {H h : Zb} (ht : h.take H.length = H) : H.length ≤ h.length := by
  have := congrArg List.length ht
  rw [List.length_take] at this; omega
theorem Grow.ext (hg : Grow T f H h d ws) (G : Zb) : Grow T f H (h ++ G) d ws := by
  obtain ⟨ht, hr⟩ := hg
  refine ⟨?_, ?_⟩
  · rw [List.take_append_of_le_length (take_le ht)]; exact ht
  · rcases hr with hr | ⟨g, o, h1, h2, h3⟩
    · exact .inl hr
    · exact .inr ⟨g, o, h1, h2, by rw [List.getElem?_append_left (List.getElem?_eq_some_iff.1 h3).1]; exact h3⟩
theorem Grow.keep (hg : Grow T f H h d ws) {h' : Zb} (ht : h'.take h.length = h) : Grow T f H h' d ws := by
  have e : h' = h ++ h'.drop h.length := by
    have := List.take_append_drop h.length h'
    rw [ht] at this; exact this.symm
  rw [e]; exact hg.ext _
theorem Grow.vw (hg : Grow T f H h d ws) (G : Zb) : vw (h ++ G) 1 d = some (ws.map f) := by
  rcases (hg.ext G).2 with ⟨rfl, rfl⟩ | ⟨g, o, rfl, h2, h3⟩
  · rfl
  · simp [Go.Proofs.YtmbgfbomgbdjeaaGreatDoor.vw, h3, List.take_of_length_le]
theorem Grow.app (hg : Grow T f H h d ws) (b : Nat) (ys : List Nat) (hb : (ws.length + ys.length) * b ≤ 140737488355328) : ∃ d' h', appx h T 1 b d (ws.map f) (ys.map f) = some (d', h') ∧ Grow T f H h' d' (ws ++ ys) := by
  by_cases hy : ys = []
  · subst hy
    exact ⟨d, h, by simp [appx], by rw [List.append_nil]; exact hg⟩
  · have hy' : ys.map f ≠ [] := by simpa using hy
    have hle : ((ws.map f).length + (ys.map f).length) * b ≤ 140737488355328 := by simpa using hb
    obtain ⟨ht, hr⟩ := hg
    rcases hr with ⟨rfl, rfl⟩ | ⟨g, o, rfl, h2, h3⟩
    · refine ⟨.row h.length 0 0 ys.length false, h ++ [.row T 1 0 (ys.map f)], ?_, ?_, .inr ⟨0, h.length, by simp, take_le ht, by simp⟩⟩
      · simp only [appx, if_neg hy', List.length_map]
        rw [if_pos hb]
      · rw [List.take_append_of_le_length (take_le ht)]; exact ht
    · have hlt := (List.getElem?_eq_some_iff.1 h3).1
      refine ⟨.row o (g + 1) 0 (ws.length + ys.length) false, h.set o (.row T 1 (g + 1) (ws.map f ++ ys.map f)), ?_, ?_, .inr ⟨g + 1, o, by simp, h2, ?_⟩⟩
      · simp only [appx, if_neg hy', List.length_map, h3]
        rw [if_pos hb]
        simp
      · rw [List.take_set_of_le h2]; exact ht
      · rw [List.getElem?_set_self hlt, List.map_append]
/-- What is told in a tuple. -/
theorem fin_grw (hg : Grow T f H h d ws) (hf : ∀ x, Nr (f x)) (k : Int) : ∃ R, fin H h [d, .int .i64 k] = (.tup [R, .int .i64 k], H) ∧ ((R = .nils ∧ ws = []) ∨ R = .list 1 (ws.map f) false) := by
  obtain ⟨ht, hr⟩ := hg
  rcases hr with ⟨rfl, rfl⟩ | ⟨g, o, rfl, h2, h3⟩
  · refine ⟨.nils, ?_, .inl ⟨rfl, rfl⟩⟩
    simp only [fin]
    rw [if_pos ht]
    rfl
  · refine ⟨.list 1 (ws.map f) false, ?_, .inr rfl⟩
    simp only [fin]
    rw [if_pos ht]
    have hN : ∀ x ∈ ws.map f, Nr x := fun x hx => by
      obtain ⟨n, _, rfl⟩ := List.mem_map.1 hx
      exact hf n
    simp only [fzT, fz1, fz0]
    rw [if_neg (by omega), h3]
    simp only
    rw [if_pos ⟨rfl, by simp, hN⟩]
    simp [List.take_of_length_le]
end
/-- Bytes that are told. -/
def BytesL (R : DV) (bs : List Nat) : Prop := (R = .nils ∧ bs = []) ∨ R = .list 1 (bs.map bD) false
theorem BytesL.vw {R : DV} {bs : List Nat} (h : BytesL R bs) (g : Zb) : vw g 1 R = some (bs.map bD) := by
  rcases h with ⟨rfl, rfl⟩ | rfl <;> rfl
end Go.Proofs.YtmbgfbomgbdjeaaGreatDoor
