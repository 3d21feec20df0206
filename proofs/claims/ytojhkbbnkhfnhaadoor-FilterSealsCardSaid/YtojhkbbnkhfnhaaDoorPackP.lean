/- Plain facts: bytes as bits; numbers of few bits, packed. Ideal runs: numbers of few bits, packed. Ideal runs: bits.Pack. Ideal runs: the document's numbers of few bits. Ideal runs: the document's Pack. Ideal runs: the document's Pack. -/
import Derived.Test.YtojhkbbnkhfnhaaDoorChecked
import Derived.Test.YtojhkbbnkhfnhaaDoorPlainB
import Derived.Test.YtojhkbbnkhfnhaaDoorNod
namespace Go.Proofs.YtojhkbbnkhfnhaaDoor
set_option linter.unusedVariables false
set_option linter.unusedSimpArgs false
def BB (bs : List Nat) : Prop := ∀ x ∈ bs, x < 256
def bitB (bs : List Nat) (q : Nat) : Bool := (bs.getD (q / 8) 0).testBit (q % 8)
def setB (bs : List Nat) (a c : Nat) : List Nat := bs.set (a / 8) (bs.getD (a / 8) 0 ||| c * 2 ^ (a % 8))
theorem setB_len (bs : List Nat) (a c : Nat) : (setB bs a c).length = bs.length := by simp [setB]
theorem BB.getD {bs : List Nat} (h : BB bs) (k : Nat) : bs.getD k 0 < 256 := by
  rw [List.getD_eq_getElem?_getD]
  cases e : bs[k]? with
  | none => simp
  | some x => exact h x (List.mem_of_getElem? e)
theorem or_byte {b c j : Nat} (hb : b < 256) (hc : c ≤ 1) (hj : j < 8) : b ||| c * 2 ^ j < 256 := by
  have h2 : c * 2 ^ j < 2 ^ 8 := by
    have : 2 ^ j ≤ 2 ^ 7 := Nat.pow_le_pow_right (by omega) (by omega)
    have : c * 2 ^ j ≤ 1 * 2 ^ 7 := Nat.mul_le_mul hc this
    omega
  exact Nat.or_lt_two_pow (n := 8) hb h2
theorem BB.setB {bs : List Nat} (h : BB bs) (a : Nat) {c : Nat} (hc : c ≤ 1) : BB (setB bs a c) := by
  intro x hx
  rcases List.mem_or_eq_of_mem_set hx with hx | rfl
  · exact h x hx
  · exact or_byte (h.getD _) hc (Nat.mod_lt _ (by decide))
theorem bitB_setB {bs : List Nat} {a c : Nat} (h : a / 8 < bs.length) (hc : c ≤ 1) (q : Nat) : bitB (Go.Proofs.YtojhkbbnkhfnhaaDoor.setB bs a c) q = (bitB bs q || (decide (q = a) && decide (c = 1))) := by
  unfold bitB Go.Proofs.YtojhkbbnkhfnhaaDoor.setB
  by_cases hq : q / 8 = a / 8
  · rw [List.getD_eq_getElem?_getD, hq, List.getElem?_set_self h]
    simp only [Option.getD_some]
    rw [Nat.testBit_or]
    congr 1
    rcases (by omega : c = 0 ∨ c = 1) with rfl | rfl
    · simp
    · rw [Nat.one_mul, Nat.testBit_two_pow]
      simp only [decide_true, Bool.and_true]
      apply decide_eq_decide.2
      omega
  · have hne : q ≠ a := fun e => hq (by rw [e])
    rw [List.getD_eq_getElem?_getD, List.getElem?_set_ne (fun e => hq e.symm), ← List.getD_eq_getElem?_getD]
    simp [hne]
/-- Bytes are what their bits are. -/
theorem bytes_ext {xs bs : List Nat} (hl : xs.length = bs.length) (ha : BB xs) (hb : BB bs) (h : ∀ q, bitB xs q = bitB bs q) : xs = bs := by
  apply List.ext_getElem hl
  intro p h1 h2
  apply Nat.eq_of_testBit_eq
  intro j
  have ea : xs.getD p 0 = xs[p] := by rw [List.getD_eq_getElem?_getD, List.getElem?_eq_getElem h1]; rfl
  have eb : bs.getD p 0 = bs[p] := by rw [List.getD_eq_getElem?_getD, List.getElem?_eq_getElem h2]; rfl
  by_cases hj : j < 8
  · have := h (8 * p + j)
    unfold bitB at this
    rw [show (8 * p + j) / 8 = p by omega, show (8 * p + j) % 8 = j by omega, ea, eb] at this
    exact this
  · have la := ha _ (List.getElem_mem h1)
    have lb := hb _ (List.getElem_mem h2)
    have hp : 256 ≤ 2 ^ j := Nat.le_trans (by decide : 256 ≤ 2 ^ 8) (Nat.pow_le_pow_right (by omega) (by omega))
    rw [Nat.testBit_lt_two_pow (by omega), Nat.testBit_lt_two_pow (by omega)]
theorem bit01 (n k : Nat) : decide (n / 2 ^ k % 2 = 1) = n.testBit k := by
  rw [Nat.testBit_eq_decide_div_mod_eq]
/-- One number's bits, the first k of them. -/
def pkE (w i n : Nat) : Nat → List Nat → List Nat
  | 0, bs => bs
  | k + 1, bs => setB (pkE w i n k bs) (i * w + k) (n / 2 ^ k % 2)
theorem pkE_len (w i n : Nat) : ∀ (k : Nat) (bs : List Nat), (pkE w i n k bs).length = bs.length
  | 0, _ => rfl
  | k + 1, bs => by rw [pkE, setB_len, pkE_len w i n k]
theorem pkE_BB (w i n : Nat) : ∀ (k : Nat) {bs : List Nat}, BB bs → BB (pkE w i n k bs)
  | 0, _, h => h
  | k + 1, bs, h => (pkE_BB w i n k h).setB _ (by omega)
theorem pkE_bit (w i n : Nat) : ∀ (k : Nat) (bs : List Nat), i * w + k ≤ 8 * bs.length → ∀ q, bitB (pkE w i n k bs) q = (bitB bs q || (decide (i * w ≤ q) && decide (q < i * w + k) && n.testBit (q - i * w)))
  | 0, bs, _, q => by
    have : (decide (i * w ≤ q) && decide (q < i * w + 0)) = false := by simp
    rw [this]; simp [pkE]
  | k + 1, bs, h, q => by
    rw [pkE, bitB_setB (by rw [pkE_len]; omega) (by omega), pkE_bit w i n k bs (by omega), bit01, Bool.or_assoc]
    congr 1
    by_cases h1 : q = i * w + k
    · subst h1
      have : ¬ i * w + k < i * w + k := by omega
      simp [this]
    · by_cases h2 : q < i * w + k
      · have h3 : q < i * w + (k + 1) := by omega
        simp [h1, h2, h3]
      · have h3 : ¬ q < i * w + (k + 1) := by omega
        simp [h1, h2, h3]
/-- Numbers, from the i-th place on. -/
def pkL (w : Nat) : List Nat → Nat → List Nat → List Nat
  | [], _, bs => bs
  | n :: l, i, bs => pkL w l (i + 1) (pkE w i n w bs)
theorem pkL_len (w : Nat) : ∀ (l : List Nat) (i : Nat) (bs : List Nat), (pkL w l i bs).length = bs.length
  | [], _, _ => rfl
  | n :: l, i, bs => by rw [pkL, pkL_len w l, pkE_len]
theorem pkL_BB (w : Nat) : ∀ (l : List Nat) (i : Nat) {bs : List Nat}, BB bs → BB (pkL w l i bs)
  | [], _, _, h => h
  | n :: l, i, bs, h => pkL_BB w l (i + 1) (pkE_BB w i n w h)
theorem pkL_bit {w : Nat} (hw : 0 < w) : ∀ (l : List Nat) (i : Nat) (bs : List Nat), (i + l.length) * w ≤ 8 * bs.length → ∀ q, bitB (pkL w l i bs) q = (bitB bs q || (decide (i * w ≤ q) && decide (q < (i + l.length) * w) && (l.getD (q / w - i) 0).testBit (q % w)))
  | [], i, bs, _, q => by
    have : (decide (i * w ≤ q) && decide (q < (i + 0) * w)) = false := by simp
    simp only [List.length_nil]
    rw [this]; simp [pkL]
  | n :: l, i, bs, h, q => by
    simp only [List.length_cons] at h ⊢
    have e : (i + 1 + l.length) * w = (i + (l.length + 1)) * w := by congr 1; omega
    have hle : i * w + w ≤ (i + (l.length + 1)) * w := by
      rw [← Nat.succ_mul]; exact Nat.mul_le_mul_right w (by omega)
    rw [pkL, pkL_bit hw l (i + 1) _ (by rw [pkE_len, e]; exact h), pkE_bit w i n w bs (by omega), Bool.or_assoc, e]
    congr 1
    have hs : (i + 1) * w = i * w + w := Nat.succ_mul i w
    by_cases h1 : i * w ≤ q
    · by_cases h2 : q < i * w + w
      · have hd : q / w = i := by
          apply Nat.div_eq_of_lt_le
          · exact h1
          · rw [Nat.succ_mul]; exact h2
        have hm : q % w = q - i * w := by
          have := Nat.div_add_mod q w
          rw [hd, Nat.mul_comm] at this; omega
        have h3 : ¬ (i + 1) * w ≤ q := by omega
        have h4 : q < (i + (l.length + 1)) * w := by omega
        rw [hd, hm, Nat.sub_self]
        simp [h1, h2, h3, h4]
      · have h3 : (i + 1) * w ≤ q := by omega
        have hd : i + 1 ≤ q / w := (Nat.le_div_iff_mul_le hw).2 h3
        rw [show q / w - i = (q / w - (i + 1)) + 1 by omega]
        simp [h1, h2, h3]
    · have h3 : ¬ (i + 1) * w ≤ q := by omega
      simp [h1, h3]
/-- Numbers, packed. -/
def pack (l : List Nat) (w : Nat) : List Nat := pkL w l 0 (List.replicate ((l.length * w + 7) / 8) 0)
theorem pack_len (l : List Nat) (w : Nat) : (pack l w).length = (l.length * w + 7) / 8 := by simp [pack, pkL_len]
theorem pack_BB (l : List Nat) (w : Nat) : BB (pack l w) := pkL_BB w l 0 (fun x hx => by rw [List.eq_of_mem_replicate hx]; decide)
theorem pack_bit (l : List Nat) (w : Nat) (q : Nat) : bitB (pack l w) q = (decide (q < l.length * w) && (l.getD (q / w) 0).testBit (q % w)) := by
  have h0 : ∀ m, bitB (List.replicate m 0) q = false := by
    intro m
    unfold bitB
    rw [List.getD_eq_getElem?_getD, List.getElem?_replicate]
    split <;> simp
  rcases Nat.eq_zero_or_pos w with rfl | hw
  · have : bitB (pack l 0) q = false := by
      unfold bitB
      rw [List.getD_eq_getElem?_getD, List.getElem?_eq_none (by rw [pack_len]; omega)]
      simp
    rw [this]; simp
  · unfold pack
    rw [pkL_bit hw l 0 _ (by simp; omega), h0]
    simp
/-! ### The document's way -/
def numR (n w : Nat) : List Nat := (List.range w).map fun k => n / 2 ^ k % 2
def allR (l : List Nat) (w : Nat) : List Nat := l.flatMap fun n => numR n w
def valR : List Nat → Nat
  | [] => 0
  | b :: l => 2 * valR l + b
theorem numR_len (n w : Nat) : (numR n w).length = w := by simp [numR]
theorem allR_len (w : Nat) : ∀ l : List Nat, (allR l w).length = l.length * w
  | [] => by simp [allR]
  | n :: l => by
    have := allR_len w l
    simp only [allR, List.flatMap_cons, List.length_append, numR_len, List.length_cons] at this ⊢
    rw [this, Nat.succ_mul]; omega
theorem allR_get {w : Nat} (hw : 0 < w) : ∀ (l : List Nat) (q : Nat), q < l.length * w → (allR l w).getD q 0 = l.getD (q / w) 0 / 2 ^ (q % w) % 2
  | [], q, h => by simp at h
  | n :: l, q, h => by
    have e : allR (n :: l) w = numR n w ++ allR l w := rfl
    rw [e]
    by_cases c : q < w
    · rw [List.getD_eq_getElem?_getD, List.getElem?_append_left (by rw [numR_len]; exact c), Nat.div_eq_of_lt c, Nat.mod_eq_of_lt c]
      simp [numR, c]
    · have hq : q - w < l.length * w := by
        simp only [List.length_cons, Nat.succ_mul] at h; omega
      have ih := allR_get hw l (q - w) hq
      rw [List.getD_eq_getElem?_getD, List.getElem?_append_right (by rw [numR_len]; omega), numR_len, ← List.getD_eq_getElem?_getD, ih]
      have hd : q / w = (q - w) / w + 1 := by
        rw [← Nat.add_div_right _ hw]; congr 1; omega
      have hm : q % w = (q - w) % w := by
        rw [Nat.mod_eq_sub_mod (by omega)]
      rw [hd, hm]
      simp
theorem valR_bit : ∀ (l : List Nat), (∀ b ∈ l, b ≤ 1) → ∀ j, (valR l).testBit j = decide (l.getD j 0 = 1)
  | [], _, j => by simp [valR]
  | b :: l, h, j => by
    have hb : b ≤ 1 := h b (by simp)
    have ih := valR_bit l (fun x hx => h x (by simp [hx]))
    rw [valR]
    cases j with
    | zero =>
      rw [Nat.testBit_zero]
      simp only [List.getD_cons_zero]
      apply decide_eq_decide.2
      omega
    | succ j =>
      rw [Nat.testBit_succ, show (2 * valR l + b) / 2 = valR l by omega, ih]
      simp
theorem valR_lt : ∀ (l : List Nat), (∀ b ∈ l, b ≤ 1) → valR l < 2 ^ l.length
  | [], _ => by simp [valR]
  | b :: l, h => by
    have hb : b ≤ 1 := h b (by simp)
    have ih := valR_lt l (fun x hx => h x (by simp [hx]))
    rw [valR, List.length_cons, Nat.pow_succ]; omega
theorem allR_le {w : Nat} {l : List Nat} : ∀ b ∈ allR l w, b ≤ 1 := by
  intro b hb
  simp only [allR, List.mem_flatMap, numR, List.mem_map] at hb
  obtain ⟨n, _, k, _, rfl⟩ := hb
  omega
set_option maxRecDepth 10000
abbrev bD (n : Nat) : DV := .int .u8 (n : Int)
/-- How wide numbers are. -/
def wN (n : Nat) : Nat := Go.Sort.bitsLen n
theorem run86 (n : Nat) (hn : n < 256) (h : ZQ) : E X 86 [.int .i64 n] h = some (.int .i64 (wN n : Nat), h) := by
  have e := run116 n hn h
  have m1 := mm_clamp n
  have u1 : IntKind.u64.wrap (n : Int) = (n : Int) := by rw [wrapu, Nat.mod_eq_of_lt (by omega)]
  rw [Yg (X := X) _ b86 _ rfl rfl]; unfold b86; (repeat (first | rw [Zj] | rw [Zc (by simp [ZX, ZS, ZU, ZV, ZN, ZE, ZL, ZH, ZJ, Zu, Zv, ZI, ZO, ZP, ZW, ↓ZG, ZM, ZF, ZT, Zn, Zm, Ye, ZR, Yp, put, lk, Od.v, Za, ZD, Zl, Yt, Yi, Yj, Yk, YA, Yx, DV.isU, DV.cells, hget, ZY, Yh, Ya, ZK, splice, DV.one, Yb, mat, Yf, Yw, e, m1, u1, wN]; exact ⟨rfl, rfl⟩)] | rw [Zx (by simp [lk, Za, Od.v, e, m1, u1, wN]; exact rfl)] | rw [Zn] | rw [Zm] | rw [Zo] | rw [ZA] | rw [Zr] | rw [Zw] | rw [Zq] | rw [Zp] | rw [Zk] | rw [Zg] | rw [Zh] | rw [Zd (by decide)] | rw [Zi] | rw [Ze] | rw [Zf] | rw [Zb (by decide)] | rw [ZB] | rw [Zt (by simp [ZX, ZS, ZU, ZV, ZN, ZE, ZL, ZH, ZJ, Zu, Zv, ZI, ZO, ZP, ZW, ↓ZG, ZM, ZF, ZT, Zn, Zm, Ye, ZR, Yp, put, lk, Od.v, Za, ZD, Zl, Yt, Yi, Yj, Yk, YA, Yx, DV.isU, DV.cells, hget, ZY, Yh, Ya, ZK, splice, DV.one, Yb, mat, Yf, Yw, e, m1, u1, wN]; exact ⟨rfl, rfl⟩)] | rw [Zy (by simp [lk, Za, Od.v, e, m1, u1, wN]; exact rfl)] | rw [Zz])); simp [Zs, ZC, Yc, ZX, ZS, ZU, ZV, ZN, ZE, ZL, ZH, ZJ, Zu, Zv, ZI, ZO, ZP, ZW, ↓ZG, ZM, ZF, ZT, Zn, Zm, Ye, ZR, Yp, put, lk, Od.v, Za, ZD, Zl, Yt, Yi, Yj, Yk, YA, Yx, DV.isU, DV.cells, hget, ZY, Yh, Ya, ZK, splice, DV.one, Yb, mat, Yf, Yw, fin, YD, YC, YG, YF, YI, e, m1, u1, wN]
theorem run86m (h : ZQ) : E X 86 [.int .i64 (-1)] h = some (.int .i64 0, h) := by
  have e := run116 0 (by omega) h
  have m1 : mm true .i64 (-1) [.int .i64 0] = some 0 := by rfl
  have u1 : IntKind.u64.wrap (0 : Int) = 0 := by rfl
  have b0 : Go.Sort.bitsLen 0 = 0 := rfl
  rw [b0, show ((0 : Nat) : Int) = 0 from rfl] at e
  rw [Yg (X := X) _ b86 _ rfl rfl]; unfold b86; (repeat (first | rw [Zj] | rw [Zc (by simp [ZX, ZS, ZU, ZV, ZN, ZE, ZL, ZH, ZJ, Zu, Zv, ZI, ZO, ZP, ZW, ↓ZG, ZM, ZF, ZT, Zn, Zm, Ye, ZR, Yp, put, lk, Od.v, Za, ZD, Zl, Yt, Yi, Yj, Yk, YA, Yx, DV.isU, DV.cells, hget, ZY, Yh, Ya, ZK, splice, DV.one, Yb, mat, Yf, Yw, e, m1, u1]; exact ⟨rfl, rfl⟩)] | rw [Zx (by simp [lk, Za, Od.v, e, m1, u1]; exact rfl)] | rw [Zn] | rw [Zm] | rw [Zo] | rw [ZA] | rw [Zr] | rw [Zw] | rw [Zq] | rw [Zp] | rw [Zk] | rw [Zg] | rw [Zh] | rw [Zd (by decide)] | rw [Zi] | rw [Ze] | rw [Zf] | rw [Zb (by decide)] | rw [ZB] | rw [Zt (by simp [ZX, ZS, ZU, ZV, ZN, ZE, ZL, ZH, ZJ, Zu, Zv, ZI, ZO, ZP, ZW, ↓ZG, ZM, ZF, ZT, Zn, Zm, Ye, ZR, Yp, put, lk, Od.v, Za, ZD, Zl, Yt, Yi, Yj, Yk, YA, Yx, DV.isU, DV.cells, hget, ZY, Yh, Ya, ZK, splice, DV.one, Yb, mat, Yf, Yw, e, m1, u1]; exact ⟨rfl, rfl⟩)] | rw [Zy (by simp [lk, Za, Od.v, e, m1, u1]; exact rfl)] | rw [Zz])); simp [Zs, ZC, Yc, ZX, ZS, ZU, ZV, ZN, ZE, ZL, ZH, ZJ, Zu, Zv, ZI, ZO, ZP, ZW, ↓ZG, ZM, ZF, ZT, Zn, Zm, Ye, ZR, Yp, put, lk, Od.v, Za, ZD, Zl, Yt, Yi, Yj, Yk, YA, Yx, DV.isU, DV.cells, hget, ZY, Yh, Ya, ZK, splice, DV.one, Yb, mat, Yf, Yw, fin, YD, YC, YG, YF, YI, e, m1, u1]
/-- The width of a column of so many values. -/
def wC (n : Nat) : Nat := wN (n - 1)
theorem run47 (n : Nat) (hn : n ≤ 256) (h : ZQ) : E X 47 [.int .i64 n] h = some (.int .i64 (wC n : Nat), h) := by
  rcases Nat.eq_zero_or_pos n with rfl | hp
  · have e := run86m h
    have z : IntKind.i64.wrap (-1) = -1 := by rfl
    have b0 : wC 0 = 0 := rfl
    rw [b0]
    rw [Yg (X := X) _ b47 _ rfl rfl]; unfold b47; (repeat (first | rw [Zj] | rw [Zc (by simp [ZX, ZS, ZU, ZV, ZN, ZE, ZL, ZH, ZJ, Zu, Zv, ZI, ZO, ZP, ZW, ↓ZG, ZM, ZF, ZT, Zn, Zm, Ye, ZR, Yp, put, lk, Od.v, Za, ZD, Zl, Yt, Yi, Yj, Yk, YA, Yx, DV.isU, DV.cells, hget, ZY, Yh, Ya, ZK, splice, DV.one, Yb, mat, Yf, Yw, e, z]; exact ⟨rfl, rfl⟩)] | rw [Zx (by simp [lk, Za, Od.v, e, z]; exact rfl)] | rw [Zn] | rw [Zm] | rw [Zo] | rw [ZA] | rw [Zr] | rw [Zw] | rw [Zq] | rw [Zp] | rw [Zk] | rw [Zg] | rw [Zh] | rw [Zd (by decide)] | rw [Zi] | rw [Ze] | rw [Zf] | rw [Zb (by decide)] | rw [ZB] | rw [Zt (by simp [ZX, ZS, ZU, ZV, ZN, ZE, ZL, ZH, ZJ, Zu, Zv, ZI, ZO, ZP, ZW, ↓ZG, ZM, ZF, ZT, Zn, Zm, Ye, ZR, Yp, put, lk, Od.v, Za, ZD, Zl, Yt, Yi, Yj, Yk, YA, Yx, DV.isU, DV.cells, hget, ZY, Yh, Ya, ZK, splice, DV.one, Yb, mat, Yf, Yw, e, z]; exact ⟨rfl, rfl⟩)] | rw [Zy (by simp [lk, Za, Od.v, e, z]; exact rfl)] | rw [Zz])); simp [Zs, ZC, Yc, ZX, ZS, ZU, ZV, ZN, ZE, ZL, ZH, ZJ, Zu, Zv, ZI, ZO, ZP, ZW, ↓ZG, ZM, ZF, ZT, Zn, Zm, Ye, ZR, Yp, put, lk, Od.v, Za, ZD, Zl, Yt, Yi, Yj, Yk, YA, Yx, DV.isU, DV.cells, hget, ZY, Yh, Ya, ZK, splice, DV.one, Yb, mat, Yf, Yw, fin, YD, YC, YG, YF, YI, e, z]
  · obtain ⟨k, hk⟩ : ∃ k, k = n - 1 := ⟨_, rfl⟩
    have e := run86 k (by omega) h
    have z : IntKind.i64.wrap ((n : Int) - 1) = (k : Int) := (by rw [wrap64 _ (by omega) (by omega)]; omega)
    have b0 : wC n = wN k := by rw [hk]; rfl
    rw [b0]
    rw [Yg (X := X) _ b47 _ rfl rfl]; unfold b47; (repeat (first | rw [Zj] | rw [Zc (by simp [ZX, ZS, ZU, ZV, ZN, ZE, ZL, ZH, ZJ, Zu, Zv, ZI, ZO, ZP, ZW, ↓ZG, ZM, ZF, ZT, Zn, Zm, Ye, ZR, Yp, put, lk, Od.v, Za, ZD, Zl, Yt, Yi, Yj, Yk, YA, Yx, DV.isU, DV.cells, hget, ZY, Yh, Ya, ZK, splice, DV.one, Yb, mat, Yf, Yw, e, z]; exact ⟨rfl, rfl⟩)] | rw [Zx (by simp [lk, Za, Od.v, e, z]; exact rfl)] | rw [Zn] | rw [Zm] | rw [Zo] | rw [ZA] | rw [Zr] | rw [Zw] | rw [Zq] | rw [Zp] | rw [Zk] | rw [Zg] | rw [Zh] | rw [Zd (by decide)] | rw [Zi] | rw [Ze] | rw [Zf] | rw [Zb (by decide)] | rw [ZB] | rw [Zt (by simp [ZX, ZS, ZU, ZV, ZN, ZE, ZL, ZH, ZJ, Zu, Zv, ZI, ZO, ZP, ZW, ↓ZG, ZM, ZF, ZT, Zn, Zm, Ye, ZR, Yp, put, lk, Od.v, Za, ZD, Zl, Yt, Yi, Yj, Yk, YA, Yx, DV.isU, DV.cells, hget, ZY, Yh, Ya, ZK, splice, DV.one, Yb, mat, Yf, Yw, e, z]; exact ⟨rfl, rfl⟩)] | rw [Zy (by simp [lk, Za, Od.v, e, z]; exact rfl)] | rw [Zz])); simp [Zs, ZC, Yc, ZX, ZS, ZU, ZV, ZN, ZE, ZL, ZH, ZJ, Zu, Zv, ZI, ZO, ZP, ZW, ↓ZG, ZM, ZF, ZT, Zn, Zm, Ye, ZR, Yp, put, lk, Od.v, Za, ZD, Zl, Yt, Yi, Yj, Yk, YA, Yx, DV.isU, DV.cells, hget, ZY, Yh, Ya, ZK, splice, DV.one, Yb, mat, Yf, Yw, fin, YD, YC, YG, YF, YI, e, z]
theorem run99 (n w : Nat) (hn : n ≤ 100000) (hw : w ≤ 62) (h : ZQ) : E X 99 [.int .i64 n, .int .i64 w] h = some (.int .i64 ((n * w + 7) / 8 : Nat), h) := by
  have hm : n * w ≤ 100000 * 62 := Nat.mul_le_mul hn hw
  obtain ⟨P, hP⟩ : ∃ P, P = n * w := ⟨_, rfl⟩
  have z1 : IntKind.i64.wrap ((n : Int) * (w : Int)) = (P : Int) := by
    rw [← Int.natCast_mul, ← hP, wrap64 _ (by omega) (by omega)]
  obtain ⟨Q, hQ⟩ : ∃ Q, Q = P + 7 := ⟨_, rfl⟩
  have z2 : IntKind.i64.wrap ((P : Int) + 7) = (Q : Int) := (by rw [wrap64 _ (by omega) (by omega)]; omega)
  obtain ⟨R, hR⟩ : ∃ R, R = Q / 8 := ⟨_, rfl⟩
  have z3 : IntKind.i64.wrap ((Q : Int) / 8) = (R : Int) := (by rw [wrap64 _ (by omega) (by omega)]; omega)
  rw [← hP, ← hQ, ← hR]
  clear hP hQ hR hm
  rw [Yg (X := X) _ b99 _ rfl rfl]; unfold b99; (repeat (first | rw [Zj] | rw [Zc (by simp [ZX, ZS, ZU, ZV, ZN, ZE, ZL, ZH, ZJ, Zu, Zv, ZI, ZO, ZP, ZW, ↓ZG, ZM, ZF, ZT, Zn, Zm, Ye, ZR, Yp, put, lk, Od.v, Za, ZD, Zl, Yt, Yi, Yj, Yk, YA, Yx, DV.isU, DV.cells, hget, ZY, Yh, Ya, ZK, splice, DV.one, Yb, mat, Yf, Yw, z1, z2, z3]; exact ⟨rfl, rfl⟩)] | rw [Zx (by simp [lk, Za, Od.v, z1, z2, z3]; exact rfl)] | rw [Zn] | rw [Zm] | rw [Zo] | rw [ZA] | rw [Zr] | rw [Zw] | rw [Zq] | rw [Zp] | rw [Zk] | rw [Zg] | rw [Zh] | rw [Zd (by decide)] | rw [Zi] | rw [Ze] | rw [Zf] | rw [Zb (by decide)] | rw [ZB] | rw [Zt (by simp [ZX, ZS, ZU, ZV, ZN, ZE, ZL, ZH, ZJ, Zu, Zv, ZI, ZO, ZP, ZW, ↓ZG, ZM, ZF, ZT, Zn, Zm, Ye, ZR, Yp, put, lk, Od.v, Za, ZD, Zl, Yt, Yi, Yj, Yk, YA, Yx, DV.isU, DV.cells, hget, ZY, Yh, Ya, ZK, splice, DV.one, Yb, mat, Yf, Yw, z1, z2, z3]; exact ⟨rfl, rfl⟩)] | rw [Zy (by simp [lk, Za, Od.v, z1, z2, z3]; exact rfl)] | rw [Zz])); simp [Zs, ZC, Yc, ZX, ZS, ZU, ZV, ZN, ZE, ZL, ZH, ZJ, Zu, Zv, ZI, ZO, ZP, ZW, ↓ZG, ZM, ZF, ZT, Zn, Zm, Ye, ZR, Yp, put, lk, Od.v, Za, ZD, Zl, Yt, Yi, Yj, Yk, YA, Yx, DV.isU, DV.cells, hget, ZY, Yh, Ya, ZK, splice, DV.one, Yb, mat, Yf, Yw, fin, YD, YC, YG, YF, YI, z1, z2, z3]
theorem run84 (w : Nat) (hw : w ≤ 62) (h : ZQ) : E X 84 [.int .i64 w] h = some (.bool true, h) := by
  have h2 : (w : Int) ≤ 62 := by omega
  rw [Yg (X := X) _ b84 _ rfl rfl]; unfold b84; (repeat (first | rw [Zj] | rw [Zc (by simp [ZX, ZS, ZU, ZV, ZN, ZE, ZL, ZH, ZJ, Zu, Zv, ZI, ZO, ZP, ZW, ↓ZG, ZM, ZF, ZT, Zn, Zm, Ye, ZR, Yp, put, lk, Od.v, Za, ZD, Zl, Yt, Yi, Yj, Yk, YA, Yx, DV.isU, DV.cells, hget, ZY, Yh, Ya, ZK, splice, DV.one, Yb, mat, Yf, Yw, h2, hw]; exact ⟨rfl, rfl⟩)] | rw [Zx (by simp [lk, Za, Od.v, h2, hw]; exact rfl)] | rw [Zn] | rw [Zm] | rw [Zo] | rw [ZA] | rw [Zr] | rw [Zw] | rw [Zq] | rw [Zp] | rw [Zk] | rw [Zg] | rw [Zh] | rw [Zd (by decide)] | rw [Zi] | rw [Ze] | rw [Zf] | rw [Zb (by decide)] | rw [ZB] | rw [Zt (by simp [ZX, ZS, ZU, ZV, ZN, ZE, ZL, ZH, ZJ, Zu, Zv, ZI, ZO, ZP, ZW, ↓ZG, ZM, ZF, ZT, Zn, Zm, Ye, ZR, Yp, put, lk, Od.v, Za, ZD, Zl, Yt, Yi, Yj, Yk, YA, Yx, DV.isU, DV.cells, hget, ZY, Yh, Ya, ZK, splice, DV.one, Yb, mat, Yf, Yw, h2, hw]; exact ⟨rfl, rfl⟩)] | rw [Zy (by simp [lk, Za, Od.v, h2, hw]; exact rfl)] | rw [Zz])); simp [Zs, ZC, Yc, ZX, ZS, ZU, ZV, ZN, ZE, ZL, ZH, ZJ, Zu, Zv, ZI, ZO, ZP, ZW, ↓ZG, ZM, ZF, ZT, Zn, Zm, Ye, ZR, Yp, put, lk, Od.v, Za, ZD, Zl, Yt, Yi, Yj, Yk, YA, Yx, DV.isU, DV.cells, hget, ZY, Yh, Ya, ZK, splice, DV.one, Yb, mat, Yf, Yw, fin, YD, YC, YG, YF, YI, h2, hw]
/-- A call that tells nothing. -/
theorem finU {h h' : ZQ} (hl : h'.length = h.length) : fin h h' [] = (.tup [], h') := by
  unfold fin
  split
  · rename_i hd; cases hd
  · split
    · rename_i ht
      rw [List.take_of_length_le (by omega)] at ht
      subst ht
      rfl
    · rfl
theorem loop100 {f w i : Nat} {cap : List DV} {S : Nat → ZQ} (hw : w ≤ 62) (hi : i ≤ 100000) (hf : ∀ k, k < w → E X f (.int .i64 (i * w + k : Nat) :: .int .i64 k :: cap) (S k) = some (.tup [], S (k + 1))) :
    ∀ (m k : Nat), w - k ≤ m → k ≤ w → ∃ y ex, C X (.loop lp100_0) [(0, .int .i64 i), (1, .int .i64 w), (2, .func f [] cap), (7, .int .i64 w), (8, .int .i64 k)] (S k) = some (.exit 0, (0, .int .i64 i) :: (1, .int .i64 w) :: (2, .func f [] cap) :: (7, .int .i64 w) :: (8, y) :: ex, S w) := by
  intro m
  induction m with
  | zero =>
    intro k hm hk
    obtain rfl : k = w := by omega
    refine ⟨.int .i64 k, [(9, .bool false)], ?_⟩
    rw [Yl]
    unfold lp100_0
    (repeat (first | rw [Zj] | rw [Zc (by simp [ZX, ZS, ZU, ZV, ZN, ZE, ZL, ZH, ZJ, Zu, Zv, ZI, ZO, ZP, ZW, ↓ZG, ZM, ZF, ZT, Zn, Zm, Ye, ZR, Yp, put, lk, Od.v, Za, ZD, Zl, Yt, Yi, Yj, Yk, YA, Yx, DV.isU, DV.cells, hget, ZY, Yh, Ya, ZK, splice, DV.one, Yb, mat, Yf, Yw]; exact ⟨rfl, rfl⟩)] | rw [Zx (by simp [lk, Za, Od.v]; exact rfl)] | rw [Zn] | rw [Zm] | rw [Zo] | rw [ZA] | rw [Zr] | rw [Zw] | rw [Zq] | rw [Zp] | rw [Zk] | rw [Zg] | rw [Zh] | rw [Zd (by decide)] | rw [Zi] | rw [Ze] | rw [Zf] | rw [Zb (by decide)] | rw [ZB] | rw [Zt (by simp [ZX, ZS, ZU, ZV, ZN, ZE, ZL, ZH, ZJ, Zu, Zv, ZI, ZO, ZP, ZW, ↓ZG, ZM, ZF, ZT, Zn, Zm, Ye, ZR, Yp, put, lk, Od.v, Za, ZD, Zl, Yt, Yi, Yj, Yk, YA, Yx, DV.isU, DV.cells, hget, ZY, Yh, Ya, ZK, splice, DV.one, Yb, mat, Yf, Yw]; exact ⟨rfl, rfl⟩)] | rw [Zy (by simp [lk, Za, Od.v]; exact rfl)] | rw [Zz]))
    rw [YB]
    simp [Za, lk]
  | succ m ih =>
    intro k hm hk
    by_cases c : k < w
    · obtain ⟨K, hK⟩ : ∃ K, K = k + 1 := ⟨_, rfl⟩
      have z1 : IntKind.i64.wrap ((k : Int) + 1) = (K : Int) := (by rw [wrap64 _ (by omega) (by omega)]; omega)
      have hmul : i * w ≤ 100000 * 62 := Nat.mul_le_mul hi hw
      have e := hf k c
      obtain ⟨P, hP⟩ : ∃ P, P = i * w := ⟨_, rfl⟩
      have z2 : IntKind.i64.wrap ((i : Int) * (w : Int)) = (P : Int) := by
        rw [← Int.natCast_mul, ← hP, wrap64 _ (by omega) (by omega)]
      obtain ⟨Q, hQ⟩ : ∃ Q, Q = P + k := ⟨_, rfl⟩
      have z3 : IntKind.i64.wrap ((P : Int) + (k : Int)) = (Q : Int) := (by rw [wrap64 _ (by omega) (by omega)]; omega)
      rw [← hP, ← hQ, ← hK] at e
      have hs : C X lp100_0 [(0, .int .i64 i), (1, .int .i64 w), (2, .func f [] cap), (7, .int .i64 w), (8, .int .i64 k)] (S k) = some (.norm, [(0, .int .i64 i), (1, .int .i64 w), (2, .func f [] cap), (7, .int .i64 w), (8, .int .i64 K)], S K) := by
        clear ih hf hP hQ hmul
        generalize S k = s1 at *
        generalize S K = s2 at *
        unfold lp100_0
        (repeat (first | rw [Zj] | rw [Zc (by simp [ZX, ZS, ZU, ZV, ZN, ZE, ZL, ZH, ZJ, Zu, Zv, ZI, ZO, ZP, ZW, ↓ZG, ZM, ZF, ZT, Zn, Zm, Ye, ZR, Yp, put, lk, Od.v, Za, ZD, Zl, Yt, Yi, Yj, Yk, YA, Yx, DV.isU, DV.cells, hget, ZY, Yh, Ya, ZK, splice, DV.one, Yb, mat, Yf, Yw, c, z1, z2, z3, e]; exact ⟨rfl, rfl⟩)] | rw [Zx (by simp [lk, Za, Od.v, c, z1, z2, z3, e]; exact rfl)] | rw [Zn] | rw [Zm] | rw [Zo] | rw [ZA] | rw [Zr] | rw [Zw] | rw [Zq] | rw [Zp] | rw [Zk] | rw [Zg] | rw [Zh] | rw [Zd (by decide)] | rw [Zi] | rw [Ze] | rw [Zf] | rw [Zb (by decide)] | rw [ZB] | rw [Zt (by simp [ZX, ZS, ZU, ZV, ZN, ZE, ZL, ZH, ZJ, Zu, Zv, ZI, ZO, ZP, ZW, ↓ZG, ZM, ZF, ZT, Zn, Zm, Ye, ZR, Yp, put, lk, Od.v, Za, ZD, Zl, Yt, Yi, Yj, Yk, YA, Yx, DV.isU, DV.cells, hget, ZY, Yh, Ya, ZK, splice, DV.one, Yb, mat, Yf, Yw, c, z1, z2, z3, e]; exact ⟨rfl, rfl⟩)] | rw [Zy (by simp [lk, Za, Od.v, c, z1, z2, z3, e]; exact rfl)] | rw [Zz]))
        simp [Za, lk]
      rw [Yl, hs, Yy]
      exact ih K (by omega) (by omega)
    · exact ih k (by omega) hk
theorem run100 {f w i : Nat} {cap : List DV} {S : Nat → ZQ} (hw : w ≤ 62) (hi : i ≤ 100000) (hf : ∀ k, k < w → E X f (.int .i64 (i * w + k : Nat) :: .int .i64 k :: cap) (S k) = some (.tup [], S (k + 1))) (hl : (S w).length = (S 0).length) :
    E X 100 [.int .i64 i, .int .i64 w, .func f [] cap] (S 0) = some (.tup [], S w) := by
  obtain ⟨y, ex, hc⟩ := loop100 hw hi hf w 0 (by omega) (by omega)
  rw [show ((0 : Nat) : Int) = 0 from rfl] at hc
  have hfin := finU hl
  generalize S 0 = s1 at *
  generalize S w = s2 at *
  rw [Yg (X := X) _ b100 _ rfl rfl]; unfold b100
  (repeat (first | rw [Zj] | rw [Zc (by simp [ZX, ZS, ZU, ZV, ZN, ZE, ZL, ZH, ZJ, Zu, Zv, ZI, ZO, ZP, ZW, ↓ZG, ZM, ZF, ZT, Zn, Zm, Ye, ZR, Yp, put, lk, Od.v, Za, ZD, Zl, Yt, Yi, Yj, Yk, YA, Yx, DV.isU, DV.cells, hget, ZY, Yh, Ya, ZK, splice, DV.one, Yb, mat, Yf, Yw]; exact ⟨rfl, rfl⟩)] | rw [Zx (by simp [lk, Za, Od.v]; exact rfl)] | rw [Zn] | rw [Zm] | rw [Zo] | rw [ZA] | rw [Zr] | rw [Zw] | rw [Zq] | rw [Zp] | rw [Zk] | rw [Zg] | rw [Zh] | rw [Zd (by decide)] | rw [Zi] | rw [Ze] | rw [Zf] | rw [Zb (by decide)] | rw [ZB] | rw [Zt (by simp [ZX, ZS, ZU, ZV, ZN, ZE, ZL, ZH, ZJ, Zu, Zv, ZI, ZO, ZP, ZW, ↓ZG, ZM, ZF, ZT, Zn, Zm, Ye, ZR, Yp, put, lk, Od.v, Za, ZD, Zl, Yt, Yi, Yj, Yk, YA, Yx, DV.isU, DV.cells, hget, ZY, Yh, Ya, ZK, splice, DV.one, Yb, mat, Yf, Yw]; exact ⟨rfl, rfl⟩)] | rw [Zy (by simp [lk, Za, Od.v]; exact rfl)] | rw [Zz]))
  (try simp only [Za, List.map_cons, List.map_nil, lk, reduceIte, Nat.reduceEqDiff, Nat.zero_ne_one, Nat.one_ne_zero])
  rw [hc]
  (repeat (first | rw [Zj] | rw [Zc (by simp [ZX, ZS, ZU, ZV, ZN, ZE, ZL, ZH, ZJ, Zu, Zv, ZI, ZO, ZP, ZW, ↓ZG, ZM, ZF, ZT, Zn, Zm, Ye, ZR, Yp, put, lk, Od.v, Za, ZD, Zl, Yt, Yi, Yj, Yk, YA, Yx, DV.isU, DV.cells, hget, ZY, Yh, Ya, ZK, splice, DV.one, Yb, mat, Yf, Yw]; exact ⟨rfl, rfl⟩)] | rw [Zx (by simp [lk, Za, Od.v]; exact rfl)] | rw [Zn] | rw [Zm] | rw [Zo] | rw [ZA] | rw [Zr] | rw [Zw] | rw [Zq] | rw [Zp] | rw [Zk] | rw [Zg] | rw [Zh] | rw [Zd (by decide)] | rw [Zi] | rw [Ze] | rw [Zf] | rw [Zb (by decide)] | rw [ZB] | rw [Zt (by simp [ZX, ZS, ZU, ZV, ZN, ZE, ZL, ZH, ZJ, Zu, Zv, ZI, ZO, ZP, ZW, ↓ZG, ZM, ZF, ZT, Zn, Zm, Ye, ZR, Yp, put, lk, Od.v, Za, ZD, Zl, Yt, Yi, Yj, Yk, YA, Yx, DV.isU, DV.cells, hget, ZY, Yh, Ya, ZK, splice, DV.one, Yb, mat, Yf, Yw]; exact ⟨rfl, rfl⟩)] | rw [Zy (by simp [lk, Za, Od.v]; exact rfl)] | rw [Zz]))
  rw [ZC]
  simp only [Yc, Option.map_some, hfin]
section
variable {H ns : ZQ} {bs : List Nat} {m : Nat}
end
theorem wrap8 {n : Nat} (h : n < 256) : IntKind.u8.wrap (n : Int) = (n : Int) := by
  simp [IntKind.wrap, IntKind.bits, IntKind.signed]
  omega
end Go.Proofs.YtojhkbbnkhfnhaaDoor
namespace Go.Proofs.YtojhkbbnkhfnhaaDoor
attribute [local go_sem] ZX ZS ZU ZV ZN ZE ZL ZH ZJ Zu Zv ZI ZO ZP ZW ZM ZF ZT Zn Zm Ye ZR Yp put lk Od.v Za ZD Zl Yt Yi Yj Yk YA Yx DV.isU DV.cells hget ZY Yh Ya ZK splice Yb mat Yf Yw one_bool one_int one_str one_nilp one_ref one_elem one_nils one_list one_row one_nilm one_map one_nilf one_func one_nili one_ifc one_agg one_tup one_undef one_fresh
attribute [local go_sem ↓] ZG
set_option linter.unusedVariables false
set_option linter.unusedSimpArgs false
set_option maxRecDepth 10000
theorem wN_zero : wN 0 = 0 := rfl
theorem wN_half (n : Nat) (h : 0 < n) : wN n = wN (n / 2) + 1 := by
  unfold wN Go.Sort.bitsLen
  rw [if_neg (by omega), Nat.log2_def]
  by_cases c : 2 ≤ n
  · rw [if_pos c, if_neg (by omega)]
  · rw [if_neg c, if_pos (by omega)]
theorem loop81 (h : ZQ) : ∀ (n a : Nat), n + a ≤ 1000000 → ∃ y ex, C X (.loop lp81_0) [(3, .int .i64 a), (4, .int .i64 n)] h = some (.exit 0, (3, .int .i64 (a + wN n : Nat)) :: (4, y) :: ex, h) := by
  intro n
  induction n using Nat.strongRecOn with
  | _ n ih =>
    intro a hb
    rcases Nat.eq_zero_or_pos n with rfl | hp
    · refine ⟨.int .i64 0, [(7, .bool false)], ?_⟩
      rw [wN_zero, Nat.add_zero]
      rw [Yl]
      unfold lp81_0
      (repeat (first | rw [Zj] | rw [Zc (by simp [go_sem]; exact ⟨rfl, rfl⟩)] | rw [Zx (by simp [lk, Za, Od.v]; exact rfl)] | rw [Zn] | rw [Zm] | rw [Zo] | rw [ZA] | rw [Zr] | rw [Zw] | rw [Zq] | rw [Zp] | rw [Zk] | rw [Zg] | rw [Zh] | rw [Zd (by decide)] | rw [Zi] | rw [Ze] | rw [Zf] | rw [Zb (by decide)] | rw [ZB] | rw [Zt (by simp [go_sem]; exact ⟨rfl, rfl⟩)] | rw [Zy (by simp [lk, Za, Od.v]; exact rfl)] | rw [Zz]))
      rw [YB]
      simp [Za, lk]
    · obtain ⟨I, hI⟩ : ∃ I, I = a + 1 := ⟨_, rfl⟩
      have z1 : IntKind.i64.wrap ((a : Int) + 1) = (I : Int) := (by rw [wrap64 _ (by omega) (by omega)]; omega)
      obtain ⟨m, hm⟩ : ∃ m, m = n / 2 := ⟨_, rfl⟩
      have z2 : IntKind.i64.wrap ((n : Int) / 2) = (m : Int) := (by rw [wrap64 _ (by omega) (by omega)]; omega)
      have p1 : (0 : Int) < (n : Int) := by omega
      obtain ⟨y, ex, hc⟩ := ih m (by omega) I (by omega)
      refine ⟨y, ex, ?_⟩
      have hs : C X lp81_0 [(3, .int .i64 a), (4, .int .i64 n)] h = some (.norm, [(3, .int .i64 I), (4, .int .i64 m)], h) := by
        clear ih hc
        unfold lp81_0
        (repeat (first | rw [Zj] | rw [Zc (by simp [go_sem, p1, hp, z1, z2]; exact ⟨rfl, rfl⟩)] | rw [Zx (by simp [lk, Za, Od.v, p1, hp, z1, z2]; exact rfl)] | rw [Zn] | rw [Zm] | rw [Zo] | rw [ZA] | rw [Zr] | rw [Zw] | rw [Zq] | rw [Zp] | rw [Zk] | rw [Zg] | rw [Zh] | rw [Zd (by decide)] | rw [Zi] | rw [Ze] | rw [Zf] | rw [Zb (by decide)] | rw [ZB] | rw [Zt (by simp [go_sem, p1, hp, z1, z2]; exact ⟨rfl, rfl⟩)] | rw [Zy (by simp [lk, Za, Od.v, p1, hp, z1, z2]; exact rfl)] | rw [Zz]))
        simp [Za, lk]
      rw [Yl, hs, Yy, hc, wN_half n hp, ← hm, hI]
      have : a + 1 + wN m = a + (wN m + 1) := by omega
      rw [this]
theorem run81 (n : Nat) (hn : n ≤ 100000) (h : ZQ) : E X 81 [.int .i64 n] h = some (.int .i64 (wN n : Nat), h) := by
  obtain ⟨y, ex, hc⟩ := loop81 h n 0 (by omega)
  rw [Nat.zero_add, show ((0 : Nat) : Int) = 0 from rfl] at hc
  generalize wN n = w at *
  rw [Yg (X := X) _ b81 _ rfl rfl]; unfold b81
  (repeat (first | rw [Zj] | rw [Zc (by simp [go_sem]; exact ⟨rfl, rfl⟩)] | rw [Zx (by simp [lk, Za, Od.v]; exact rfl)] | rw [Zn] | rw [Zm] | rw [Zo] | rw [ZA] | rw [Zr] | rw [Zw] | rw [Zq] | rw [Zp] | rw [Zk] | rw [Zg] | rw [Zh] | rw [Zd (by decide)] | rw [Zi] | rw [Ze] | rw [Zf] | rw [Zb (by decide)] | rw [ZB] | rw [Zt (by simp [go_sem]; exact ⟨rfl, rfl⟩)] | rw [Zy (by simp [lk, Za, Od.v]; exact rfl)] | rw [Zz]))
  (try simp only [Za, List.map_cons, List.map_nil, lk, reduceIte, Nat.reduceEqDiff, Nat.zero_ne_one, Nat.one_ne_zero])
  rw [hc]
  (repeat (first | rw [Zj] | rw [Zc (by simp [go_sem]; exact ⟨rfl, rfl⟩)] | rw [Zx (by simp [lk, Za, Od.v]; exact rfl)] | rw [Zn] | rw [Zm] | rw [Zo] | rw [ZA] | rw [Zr] | rw [Zw] | rw [Zq] | rw [Zp] | rw [Zk] | rw [Zg] | rw [Zh] | rw [Zd (by decide)] | rw [Zi] | rw [Ze] | rw [Zf] | rw [Zb (by decide)] | rw [ZB] | rw [Zt (by simp [go_sem]; exact ⟨rfl, rfl⟩)] | rw [Zy (by simp [lk, Za, Od.v]; exact rfl)] | rw [Zz]))
  simp [Zs, ZC, Yc, go_sem, fin, YD, YC, YG, YF, YI]
theorem run81m (h : ZQ) : E X 81 [.int .i64 (-1)] h = some (.int .i64 0, h) := by
  have hc : C X (.loop lp81_0) [(3, .int .i64 0), (4, .int .i64 (-1))] h = some (.exit 0, [(3, .int .i64 0), (4, .int .i64 (-1)), (7, .bool false)], h) := by
    rw [Yl]
    unfold lp81_0
    (repeat (first | rw [Zj] | rw [Zc (by simp [go_sem]; exact ⟨rfl, rfl⟩)] | rw [Zx (by simp [lk, Za, Od.v]; exact rfl)] | rw [Zn] | rw [Zm] | rw [Zo] | rw [ZA] | rw [Zr] | rw [Zw] | rw [Zq] | rw [Zp] | rw [Zk] | rw [Zg] | rw [Zh] | rw [Zd (by decide)] | rw [Zi] | rw [Ze] | rw [Zf] | rw [Zb (by decide)] | rw [ZB] | rw [Zt (by simp [go_sem]; exact ⟨rfl, rfl⟩)] | rw [Zy (by simp [lk, Za, Od.v]; exact rfl)] | rw [Zz]))
    rw [YB]
    simp [Za, lk]
  rw [Yg (X := X) _ b81 _ rfl rfl]; unfold b81
  (repeat (first | rw [Zj] | rw [Zc (by simp [go_sem]; exact ⟨rfl, rfl⟩)] | rw [Zx (by simp [lk, Za, Od.v]; exact rfl)] | rw [Zn] | rw [Zm] | rw [Zo] | rw [ZA] | rw [Zr] | rw [Zw] | rw [Zq] | rw [Zp] | rw [Zk] | rw [Zg] | rw [Zh] | rw [Zd (by decide)] | rw [Zi] | rw [Ze] | rw [Zf] | rw [Zb (by decide)] | rw [ZB] | rw [Zt (by simp [go_sem]; exact ⟨rfl, rfl⟩)] | rw [Zy (by simp [lk, Za, Od.v]; exact rfl)] | rw [Zz]))
  (try simp only [Za, List.map_cons, List.map_nil, lk, reduceIte, Nat.reduceEqDiff, Nat.zero_ne_one, Nat.one_ne_zero])
  rw [hc]
  (repeat (first | rw [Zj] | rw [Zc (by simp [go_sem]; exact ⟨rfl, rfl⟩)] | rw [Zx (by simp [lk, Za, Od.v]; exact rfl)] | rw [Zn] | rw [Zm] | rw [Zo] | rw [ZA] | rw [Zr] | rw [Zw] | rw [Zq] | rw [Zp] | rw [Zk] | rw [Zg] | rw [Zh] | rw [Zd (by decide)] | rw [Zi] | rw [Ze] | rw [Zf] | rw [Zb (by decide)] | rw [ZB] | rw [Zt (by simp [go_sem]; exact ⟨rfl, rfl⟩)] | rw [Zy (by simp [lk, Za, Od.v]; exact rfl)] | rw [Zz]))
  simp [Zs, ZC, Yc, go_sem, fin, YD, YC, YG, YF, YI]
theorem run44 (n : Nat) (hn : n ≤ 100000) (h : ZQ) : E X 44 [.int .i64 n] h = some (.int .i64 (wC n : Nat), h) := by
  rcases Nat.eq_zero_or_pos n with rfl | hp
  · have e := run81m h
    have z : IntKind.i64.wrap (-1) = -1 := by rfl
    have b0 : wC 0 = 0 := rfl
    rw [b0]
    rw [Yg (X := X) _ b44 _ rfl rfl]; unfold b44; (repeat (first | rw [Zj] | rw [Zc (by simp [go_sem, e, z]; exact ⟨rfl, rfl⟩)] | rw [Zx (by simp [lk, Za, Od.v, e, z]; exact rfl)] | rw [Zn] | rw [Zm] | rw [Zo] | rw [ZA] | rw [Zr] | rw [Zw] | rw [Zq] | rw [Zp] | rw [Zk] | rw [Zg] | rw [Zh] | rw [Zd (by decide)] | rw [Zi] | rw [Ze] | rw [Zf] | rw [Zb (by decide)] | rw [ZB] | rw [Zt (by simp [go_sem, e, z]; exact ⟨rfl, rfl⟩)] | rw [Zy (by simp [lk, Za, Od.v, e, z]; exact rfl)] | rw [Zz])); simp [Zs, ZC, Yc, go_sem, fin, YD, YC, YG, YF, YI, e, z]
  · obtain ⟨k, hk⟩ : ∃ k, k = n - 1 := ⟨_, rfl⟩
    have e := run81 k (by omega) h
    have z : IntKind.i64.wrap ((n : Int) - 1) = (k : Int) := (by rw [wrap64 _ (by omega) (by omega)]; omega)
    have b0 : wC n = wN k := by rw [hk]; rfl
    rw [b0]
    rw [Yg (X := X) _ b44 _ rfl rfl]; unfold b44; (repeat (first | rw [Zj] | rw [Zc (by simp [go_sem, e, z]; exact ⟨rfl, rfl⟩)] | rw [Zx (by simp [lk, Za, Od.v, e, z]; exact rfl)] | rw [Zn] | rw [Zm] | rw [Zo] | rw [ZA] | rw [Zr] | rw [Zw] | rw [Zq] | rw [Zp] | rw [Zk] | rw [Zg] | rw [Zh] | rw [Zd (by decide)] | rw [Zi] | rw [Ze] | rw [Zf] | rw [Zb (by decide)] | rw [ZB] | rw [Zt (by simp [go_sem, e, z]; exact ⟨rfl, rfl⟩)] | rw [Zy (by simp [lk, Za, Od.v, e, z]; exact rfl)] | rw [Zz])); simp [Zs, ZC, Yc, go_sem, fin, YD, YC, YG, YF, YI, e, z]
theorem loop114 {H : ZQ} (n w : Nat) (hw : w ≤ 62) (hn : n ≤ 1000000) :
    ∀ (m k : Nat) (o : DV) (h : ZQ), w - k ≤ m → k ≤ w → MadeI h H o (numR n k) → ∃ x o' h' y ex, C X (.loop lp114_0) [(0, .int .i64 (n / 2 ^ k : Nat)), (1, .int .i64 w), (5, o), (6, .int .i64 k)] h = some (.exit 0, (0, x) :: (1, .int .i64 w) :: (5, o') :: (6, y) :: ex, h') ∧ MadeI h' H o' (numR n w) := by
  intro m
  induction m with
  | zero =>
    intro k o h hm hk hM
    obtain rfl : k = w := by omega
    refine ⟨.int .i64 (n / 2 ^ k : Nat), o, h, .int .i64 k, [(9, .bool false)], ?_, hM⟩
    rw [Yl]
    generalize n / 2 ^ k = q
    unfold lp114_0
    (repeat (first | rw [Zj] | rw [Zc (by simp [go_sem]; exact ⟨rfl, rfl⟩)] | rw [Zx (by simp [lk, Za, Od.v]; exact rfl)] | rw [Zn] | rw [Zm] | rw [Zo] | rw [ZA] | rw [Zr] | rw [Zw] | rw [Zq] | rw [Zp] | rw [Zk] | rw [Zg] | rw [Zh] | rw [Zd (by decide)] | rw [Zi] | rw [Ze] | rw [Zf] | rw [Zb (by decide)] | rw [ZB] | rw [Zt (by simp [go_sem]; exact ⟨rfl, rfl⟩)] | rw [Zy (by simp [lk, Za, Od.v]; exact rfl)] | rw [Zz]))
    rw [YB]
    simp [Za, lk]
  | succ m ih =>
    intro k o h hm hk hM
    by_cases c : k < w
    · obtain ⟨K, hK⟩ : ∃ K, K = k + 1 := ⟨_, rfl⟩
      have z1 : IntKind.i64.wrap ((k : Int) + 1) = (K : Int) := (by rw [wrap64 _ (by omega) (by omega)]; omega)
      have hnum : numR n K = numR n k ++ [n / 2 ^ k % 2] := by rw [hK]; simp [numR, List.range_succ]
      have hdiv : n / 2 ^ K = n / 2 ^ k / 2 := by rw [hK, Nat.pow_succ, Nat.div_div_eq_div_mul]
      have hqn : n / 2 ^ k ≤ n := Nat.div_le_self _ _
      obtain ⟨o2, h2, ha, hM2⟩ := hM.app (by rw [numR_len]; omega) (n / 2 ^ k % 2)
      rw [← hnum] at hM2
      have hv := hM.vw []
      rw [List.append_nil] at hv
      have hIH := ih K o2 h2 (by omega) (by omega) hM2
      rw [hdiv] at hIH
      obtain ⟨x, o', h', y, ex, hc, hM'⟩ := hIH
      refine ⟨x, o', h', y, ex, ?_, hM'⟩
      generalize n / 2 ^ k = q at *
      obtain ⟨r, hr⟩ : ∃ r, r = q % 2 := ⟨_, rfl⟩
      obtain ⟨q2, hq2⟩ : ∃ q2, q2 = q / 2 := ⟨_, rfl⟩
      rw [← hr] at ha
      rw [← hq2] at hc
      have z2 : ((q : Int)).tmod 2 = (r : Int) := by rw [Int.tmod_eq_emod_of_nonneg (by omega)]; omega
      have z3 : IntKind.i64.wrap ((q : Int) / 2) = (q2 : Int) := (by rw [wrap64 _ (by omega) (by omega)]; omega)
      have y1 : ∀ (a : Int) h, eltL [.int .i64 a] h = some ([.int .i64 a], h) := fun _ _ => rfl
      have y2 : ∀ a, Wc 1 (.int .i64 a) := fun a => by simp [Wc, DV.cells, DV.one]
      have y3 : ∀ a, Nr (.int .i64 a) := fun a => .int _ _
      have y4 : ∀ (a : Int) h, srcOf h 1 (.list 1 [.int .i64 a] true) = some [.int .i64 a] := fun _ _ => rfl
      have hs : C X lp114_0 [(0, .int .i64 q), (1, .int .i64 w), (5, o), (6, .int .i64 k)] h = some (.norm, [(0, .int .i64 q2), (1, .int .i64 w), (5, o2), (6, .int .i64 K)], h2) := by
        clear ih hc hM hM2 hM' hnum hdiv
        generalize numR n k = nk at *
        unfold lp114_0
        (repeat (first | rw [Zj] | rw [Zc (by simp [go_sem, c, z1, z2, z3, y1, y2, y3, y4, hv, ha]; exact ⟨rfl, rfl⟩)] | rw [Zx (by simp [lk, Za, Od.v, c, z1, z2, z3, y1, y2, y3, y4, hv, ha]; exact rfl)] | rw [Zn] | rw [Zm] | rw [Zo] | rw [ZA] | rw [Zr] | rw [Zw] | rw [Zq] | rw [Zp] | rw [Zk] | rw [Zg] | rw [Zh] | rw [Zd (by decide)] | rw [Zi] | rw [Ze] | rw [Zf] | rw [Zb (by decide)] | rw [ZB] | rw [Zt (by simp [go_sem, c, z1, z2, z3, y1, y2, y3, y4, hv, ha]; exact ⟨rfl, rfl⟩)] | rw [Zy (by simp [lk, Za, Od.v, c, z1, z2, z3, y1, y2, y3, y4, hv, ha]; exact rfl)] | rw [Zz]))
        simp [Za, lk]
      rw [Yl, hs, Yy]
      exact hc
    · exact ih k o h (by omega) hk hM
theorem run114 {H : ZQ} (n w : Nat) (hw : w ≤ 62) (hn : n ≤ 1000000) : ∃ d, E X 114 [.int .i64 n, .int .i64 w] H = some (d, H) ∧ LD d (numR n w) := by
  obtain ⟨x, o', h', y, ex, hc, hM⟩ := loop114 (H := H) n w hw hn w 0 .nils H (by omega) (by omega) (.inl ⟨rfl, rfl, rfl⟩)
  obtain ⟨d, hf, hD⟩ := fin_madeI hM
  refine ⟨d, ?_, hD⟩
  rw [Nat.pow_zero, Nat.div_one, show ((0 : Nat) : Int) = 0 from rfl] at hc
  rw [Yg (X := X) _ b114 _ rfl rfl]; unfold b114
  (repeat (first | rw [Zj] | rw [Zc (by simp [go_sem]; exact ⟨rfl, rfl⟩)] | rw [Zx (by simp [lk, Za, Od.v]; exact rfl)] | rw [Zn] | rw [Zm] | rw [Zo] | rw [ZA] | rw [Zr] | rw [Zw] | rw [Zq] | rw [Zp] | rw [Zk] | rw [Zg] | rw [Zh] | rw [Zd (by decide)] | rw [Zi] | rw [Ze] | rw [Zf] | rw [Zb (by decide)] | rw [ZB] | rw [Zt (by simp [go_sem]; exact ⟨rfl, rfl⟩)] | rw [Zy (by simp [lk, Za, Od.v]; exact rfl)] | rw [Zz]))
  (try simp only [Za, List.map_cons, List.map_nil, lk, reduceIte, Nat.reduceEqDiff, Nat.zero_ne_one, Nat.one_ne_zero])
  rw [hc]
  (repeat (first | rw [Zj] | rw [Zc (by simp [go_sem]; exact ⟨rfl, rfl⟩)] | rw [Zx (by simp [lk, Za, Od.v]; exact rfl)] | rw [Zn] | rw [Zm] | rw [Zo] | rw [ZA] | rw [Zr] | rw [Zw] | rw [Zq] | rw [Zp] | rw [Zk] | rw [Zg] | rw [Zh] | rw [Zd (by decide)] | rw [Zi] | rw [Ze] | rw [Zf] | rw [Zb (by decide)] | rw [ZB] | rw [Zt (by simp [go_sem]; exact ⟨rfl, rfl⟩)] | rw [Zy (by simp [lk, Za, Od.v]; exact rfl)] | rw [Zz]))
  simp only [Zs, Yc, lk, Za, List.map_cons, List.map_nil, reduceIte, Option.map_some, hf]
theorem valR_le {l : List Nat} (h : ∀ b ∈ l, b ≤ 1) {k : Nat} (hl : l.length ≤ k) : valR l < 2 ^ k := Nat.lt_of_lt_of_le (valR_lt l h) (Nat.pow_le_pow_right (by omega) hl)
theorem loop80 {h : ZQ} {L : DV} {l : List Nat} (hL : vw h 1 L = some (l.map iD)) (hl : ∀ b ∈ l, b ≤ 1) (hb : l.length ≤ 61) :
    ∀ (j : Nat), j ≤ l.length → ∃ y ex, C X (.loop lp80_0) [(0, L), (3, .int .i64 (valR (l.drop j) : Nat)), (4, .int .i64 ((j : Int) - 1))] h = some (.exit 0, (0, L) :: (3, .int .i64 (valR l : Nat)) :: (4, y) :: ex, h) := by
  intro j
  induction j with
  | zero =>
    intro _
    refine ⟨.int .i64 (-1), [(9, .bool false)], ?_⟩
    rw [List.drop_zero, show ((0 : Nat) : Int) - 1 = -1 from rfl]
    rw [Yl]
    generalize valR l = v
    unfold lp80_0
    (repeat (first | rw [Zj] | rw [Zc (by simp [go_sem]; exact ⟨rfl, rfl⟩)] | rw [Zx (by simp [lk, Za, Od.v]; exact rfl)] | rw [Zn] | rw [Zm] | rw [Zo] | rw [ZA] | rw [Zr] | rw [Zw] | rw [Zq] | rw [Zp] | rw [Zk] | rw [Zg] | rw [Zh] | rw [Zd (by decide)] | rw [Zi] | rw [Ze] | rw [Zf] | rw [Zb (by decide)] | rw [ZB] | rw [Zt (by simp [go_sem]; exact ⟨rfl, rfl⟩)] | rw [Zy (by simp [lk, Za, Od.v]; exact rfl)] | rw [Zz]))
    rw [YB]
    simp [Za, lk]
  | succ j ih =>
    intro hj
    have c : j < l.length := by omega
    have hd : l.drop j = l[j] :: l.drop (j + 1) := by rw [List.drop_eq_getElem_cons c]
    have hv : valR (l.drop j) = 2 * valR (l.drop (j + 1)) + l[j] := by rw [hd, valR]
    have h1 : valR (l.drop j) < 2 ^ 61 := valR_le (fun b hb => hl b (List.mem_of_mem_drop hb)) (by rw [List.length_drop]; omega)
    have hle := hl _ (List.getElem_mem c)
    obtain ⟨y, ex, hc⟩ := ih (by omega)
    refine ⟨y, ex, ?_⟩
    rw [hv] at hc h1
    generalize valR (l.drop (j + 1)) = v at *
    obtain ⟨x, hx⟩ : ∃ x, x = l[j] := ⟨_, rfl⟩
    rw [← hx] at hc hv h1 hle
    have hx' := hx.symm
    obtain ⟨u, hu⟩ : ∃ u, u = 2 * v := ⟨_, rfl⟩
    rw [← hu] at hc h1
    obtain ⟨t, ht⟩ : ∃ t, t = u + x := ⟨_, rfl⟩
    rw [← ht] at hc h1
    have z1 : IntKind.i64.wrap (2 * (v : Int)) = (u : Int) := (by rw [wrap64 _ (by omega) (by omega)]; omega)
    have z2 : IntKind.i64.wrap ((u : Int) + (x : Int)) = (t : Int) := (by rw [wrap64 _ (by omega) (by omega)]; omega)
    obtain ⟨J, hJ⟩ : ∃ J : Int, J = (j : Int) - 1 := ⟨_, rfl⟩
    have z3 : IntKind.i64.wrap ((j : Int) - 1) = J := (by rw [wrap64 _ (by omega) (by omega)]; omega)
    have e1 : ((j + 1 : Nat) : Int) - 1 = (j : Int) := by omega
    rw [e1]
    rw [← hJ] at hc
    have hs : C X lp80_0 [(0, L), (3, .int .i64 v), (4, .int .i64 j)] h = some (.norm, [(0, L), (3, .int .i64 t), (4, .int .i64 J)], h) := by
      clear ih hc hv hd hl
      unfold lp80_0
      (repeat (first | rw [Zj] | rw [Zc (by simp [go_sem, c, z1, z2, z3, hL, hx', ZZ]; exact ⟨rfl, rfl⟩)] | rw [Zx (by simp [lk, Za, Od.v, c, z1, z2, z3, hL, hx', ZZ]; exact rfl)] | rw [Zn] | rw [Zm] | rw [Zo] | rw [ZA] | rw [Zr] | rw [Zw] | rw [Zq] | rw [Zp] | rw [Zk] | rw [Zg] | rw [Zh] | rw [Zd (by decide)] | rw [Zi] | rw [Ze] | rw [Zf] | rw [Zb (by decide)] | rw [ZB] | rw [Zt (by simp [go_sem, c, z1, z2, z3, hL, hx', ZZ]; exact ⟨rfl, rfl⟩)] | rw [Zy (by simp [lk, Za, Od.v, c, z1, z2, z3, hL, hx', ZZ]; exact rfl)] | rw [Zz]))
      simp [Za, lk]
    rw [Yl, hs, Yy]
    exact hc
theorem run80 {h : ZQ} {L : DV} {l : List Nat} (hL : vw h 1 L = some (l.map iD)) (hl : ∀ b ∈ l, b ≤ 1) (hb : l.length ≤ 61) : E X 80 [L] h = some (.int .i64 (valR l : Nat), h) := by
  obtain ⟨y, ex, hc⟩ := loop80 hL hl hb l.length (Nat.le_refl _)
  rw [List.drop_length, show ((valR [] : Nat) : Int) = 0 from rfl] at hc
  obtain ⟨J, hJ⟩ : ∃ J : Int, J = (l.length : Int) - 1 := ⟨_, rfl⟩
  have z3 : IntKind.i64.wrap ((l.length : Int) - 1) = J := (by rw [wrap64 _ (by omega) (by omega)]; omega)
  rw [← hJ] at hc
  generalize valR l = v at *
  rw [Yg (X := X) _ b80 _ rfl rfl]; unfold b80
  (repeat (first | rw [Zj] | rw [Zc (by simp [go_sem, hL, z3]; exact ⟨rfl, rfl⟩)] | rw [Zx (by simp [lk, Za, Od.v, hL, z3]; exact rfl)] | rw [Zn] | rw [Zm] | rw [Zo] | rw [ZA] | rw [Zr] | rw [Zw] | rw [Zq] | rw [Zp] | rw [Zk] | rw [Zg] | rw [Zh] | rw [Zd (by decide)] | rw [Zi] | rw [Ze] | rw [Zf] | rw [Zb (by decide)] | rw [ZB] | rw [Zt (by simp [go_sem, hL, z3]; exact ⟨rfl, rfl⟩)] | rw [Zy (by simp [lk, Za, Od.v, hL, z3]; exact rfl)] | rw [Zz]))
  (try simp only [Za, List.map_cons, List.map_nil, lk, reduceIte, Nat.reduceEqDiff, Nat.zero_ne_one, Nat.one_ne_zero])
  rw [hc]
  (repeat (first | rw [Zj] | rw [Zc (by simp [go_sem]; exact ⟨rfl, rfl⟩)] | rw [Zx (by simp [lk, Za, Od.v]; exact rfl)] | rw [Zn] | rw [Zm] | rw [Zo] | rw [ZA] | rw [Zr] | rw [Zw] | rw [Zq] | rw [Zp] | rw [Zk] | rw [Zg] | rw [Zh] | rw [Zd (by decide)] | rw [Zi] | rw [Ze] | rw [Zf] | rw [Zb (by decide)] | rw [ZB] | rw [Zt (by simp [go_sem]; exact ⟨rfl, rfl⟩)] | rw [Zy (by simp [lk, Za, Od.v]; exact rfl)] | rw [Zz]))
  simp [Zs, ZC, Yc, go_sem, fin, YD, YC, YG, YF, YI]
/-- A list that grows, behind H. -/
def Grow (T : Nat) (f : Nat → DV) (H h : ZQ) (d : DV) (ws : List Nat) : Prop :=
  h.take H.length = H ∧ ((d = .nils ∧ ws = []) ∨ ∃ g o, d = .row o g 0 ws.length false ∧ H.length ≤ o ∧ h[o]? = some (.row T 1 g (ws.map f)))
section
variable {T : Nat} {f : Nat → DV} {H h : ZQ} {d : DV} {ws : List Nat}
theorem Grow.zero : Grow T f H H .nils [] := ⟨List.take_length, .inl ⟨rfl, rfl⟩⟩
theorem take_le {H h : ZQ} (ht : h.take H.length = H) : H.length ≤ h.length := by
  have := congrArg List.length ht
  rw [List.length_take] at this; omega
theorem Grow.ext (hg : Grow T f H h d ws) (G : ZQ) : Grow T f H (h ++ G) d ws := by
  obtain ⟨ht, hr⟩ := hg
  refine ⟨?_, ?_⟩
  · rw [List.take_append_of_le_length (take_le ht)]; exact ht
  · rcases hr with hr | ⟨g, o, h1, h2, h3⟩
    · exact .inl hr
    · exact .inr ⟨g, o, h1, h2, by rw [List.getElem?_append_left (List.getElem?_eq_some_iff.1 h3).1]; exact h3⟩
theorem Grow.keep (hg : Grow T f H h d ws) {h' : ZQ} (ht : h'.take h.length = h) : Grow T f H h' d ws := by
  have e : h' = h ++ h'.drop h.length := by
    have := List.take_append_drop h.length h'
    rw [ht] at this; exact this.symm
  rw [e]; exact hg.ext _
theorem Grow.vw (hg : Grow T f H h d ws) (G : ZQ) : vw (h ++ G) 1 d = some (ws.map f) := by
  rcases (hg.ext G).2 with ⟨rfl, rfl⟩ | ⟨g, o, rfl, h2, h3⟩
  · rfl
  · simp [Go.Proofs.YtojhkbbnkhfnhaaDoor.vw, h3, List.take_of_length_le]
theorem Grow.vw0 (hg : Grow T f H h d ws) : Go.Proofs.YtojhkbbnkhfnhaaDoor.vw h 1 d = some (ws.map f) := by
  have := hg.vw []; rwa [List.append_nil] at this
theorem Grow.app (hg : Grow T f H h d ws) (b : Nat) (ys : List Nat) (hb : (ws.length + ys.length) * b ≤ 140737488355328) : ∃ d' h', appx h T 1 b d (ws.map f) (ys.map f) = some (d', h') ∧ Grow T f H h' d' (ws ++ ys) := by
  by_cases hy : ys = []
  · subst hy
    exact ⟨d, h, by simp [appx], by rw [List.append_nil]; exact hg⟩
  · have hy' : ys.map f ≠ [] := by simpa using hy
    have hle : ((ws.map f).length + (ys.map f).length) * b ≤ 140737488355328 := by simpa using hb
    obtain ⟨ht, hr⟩ := hg
    rcases hr with ⟨rfl, rfl⟩ | ⟨g, o, rfl, h2, h3⟩
    · refine ⟨.row h.length 0 0 ys.length false, h ++ [.row T 1 0 (ys.map f)], ?_, ?_, .inr ⟨0, h.length, by simp, take_le ht, by simp⟩⟩
      · simp only [appx, if_neg hy', List.length_map]
        rw [if_pos hb]
      · rw [List.take_append_of_le_length (take_le ht)]; exact ht
    · have hlt := (List.getElem?_eq_some_iff.1 h3).1
      refine ⟨.row o (g + 1) 0 (ws.length + ys.length) false, h.set o (.row T 1 (g + 1) (ws.map f ++ ys.map f)), ?_, ?_, .inr ⟨g + 1, o, by simp, h2, ?_⟩⟩
      · simp only [appx, if_neg hy', List.length_map, h3]
        rw [if_pos hb]
        simp
      · rw [List.take_set_of_le h2]; exact ht
      · rw [List.getElem?_set_self hlt, List.map_append]
/-- What is told in a tuple. -/
theorem fin_grw (hg : Grow T f H h d ws) (hf : ∀ x, Nr (f x)) (k : Int) : ∃ R, fin H h [d, .int .i64 k] = (.tup [R, .int .i64 k], H) ∧ ((R = .nils ∧ ws = []) ∨ R = .list 1 (ws.map f) false) := by
  obtain ⟨ht, hr⟩ := hg
  rcases hr with ⟨rfl, rfl⟩ | ⟨g, o, rfl, h2, h3⟩
  · refine ⟨.nils, ?_, .inl ⟨rfl, rfl⟩⟩
    simp only [fin]
    rw [if_pos ht]
    rfl
  · refine ⟨.list 1 (ws.map f) false, ?_, .inr rfl⟩
    simp only [fin]
    rw [if_pos ht]
    have hN : ∀ x ∈ ws.map f, Nr x := fun x hx => by
      obtain ⟨n, _, rfl⟩ := List.mem_map.1 hx
      exact hf n
    simp only [YG, YC, YD]
    rw [if_neg (by omega), h3]
    simp only
    rw [if_pos ⟨rfl, by simp, hN⟩]
    simp [List.take_of_length_le]
end
theorem allR_take (w : Nat) (l : List Nat) (i : Nat) (h : i < l.length) : allR (l.take (i + 1)) w = allR (l.take i) w ++ numR l[i] w := by
  unfold allR
  rw [← List.take_append_getElem h, List.flatMap_append]
  simp only [List.flatMap_cons, List.flatMap_nil, List.append_nil]
/-- Bytes that are told. -/
def BytesL (R : DV) (bs : List Nat) : Prop := (R = .nils ∧ bs = []) ∨ R = .list 1 (bs.map bD) false
theorem BytesL.vw {R : DV} {bs : List Nat} (h : BytesL R bs) (g : ZQ) : vw g 1 R = some (bs.map bD) := by
  rcases h with ⟨rfl, rfl⟩ | rfl <;> rfl
end Go.Proofs.YtojhkbbnkhfnhaaDoor
