/- Plain facts: bytes as bits; numbers of few bits, packed. Ideal runs: numbers of few bits, packed. Ideal runs: bits.Pack. Ideal runs: the document's numbers of few bits. Ideal runs: the document's Pack. Ideal runs: the document's Pack. -/
import Derived.Test.YtebjndbigoddnaaDoorChecked
import Derived.Test.YtebjndbigoddnaaDoorPlainB
import Derived.Test.YtebjndbigoddnaaDoorBitA
namespace Go.Proofs.YtebjndbigoddnaaDoor
set_option linter.unusedVariables false
set_option linter.unusedSimpArgs false
def BB (bs : List Nat) : Prop := ∀ x ∈ bs, x < 256
def bitB (bs : List Nat) (q : Nat) : Bool := (bs.getD (q / 8) 0).testBit (q % 8)
def setB (bs : List Nat) (a c : Nat) : List Nat := bs.set (a / 8) (bs.getD (a / 8) 0 ||| c * 2 ^ (a % 8))
theorem setB_len (bs : List Nat) (a c : Nat) : (setB bs a c).length = bs.length := by simp [setB]
theorem BB.getD {bs : List Nat} (h : BB bs) (k : Nat) : bs.getD k 0 < 256 := by
  rw [List.getD_eq_getElem?_getD]
  cases e : bs[k]? with
  | none => simp
  | some x => exact h x (List.mem_of_getElem? e)
theorem or_byte {b c j : Nat} (hb : b < 256) (hc : c ≤ 1) (hj : j < 8) : b ||| c * 2 ^ j < 256 := by
  have h2 : c * 2 ^ j < 2 ^ 8 := by
    have : 2 ^ j ≤ 2 ^ 7 := Nat.pow_le_pow_right (by omega) (by omega)
    have : c * 2 ^ j ≤ 1 * 2 ^ 7 := Nat.mul_le_mul hc this
    omega
  exact Nat.or_lt_two_pow (n := 8) hb h2
theorem BB.setB {bs : List Nat} (h : BB bs) (a : Nat) {c : Nat} (hc : c ≤ 1) : BB (setB bs a c) := by
  intro x hx
  rcases List.mem_or_eq_of_mem_set hx with hx | rfl
  · exact h x hx
  · exact or_byte (h.getD _) hc (Nat.mod_lt _ (by decide))
theorem bitB_setB {bs : List Nat} {a c : Nat} (h : a / 8 < bs.length) (hc : c ≤ 1) (q : Nat) : bitB (Go.Proofs.YtebjndbigoddnaaDoor.setB bs a c) q = (bitB bs q || (decide (q = a) && decide (c = 1))) := by
  unfold bitB Go.Proofs.YtebjndbigoddnaaDoor.setB
  by_cases hq : q / 8 = a / 8
  · rw [List.getD_eq_getElem?_getD, hq, List.getElem?_set_self h]
    simp only [Option.getD_some]
    rw [Nat.testBit_or]
    congr 1
    rcases (by omega : c = 0 ∨ c = 1) with rfl | rfl
    · simp
    · rw [Nat.one_mul, Nat.testBit_two_pow]
      simp only [decide_true, Bool.and_true]
      apply decide_eq_decide.2
      omega
  · have hne : q ≠ a := fun e => hq (by rw [e])
    rw [List.getD_eq_getElem?_getD, List.getElem?_set_ne (fun e => hq e.symm), ← List.getD_eq_getElem?_getD]
    simp [hne]
/-- Bytes are what their bits are. -/
theorem bytes_ext {xs bs : List Nat} (hl : xs.length = bs.length) (ha : BB xs) (hb : BB bs) (h : ∀ q, bitB xs q = bitB bs q) : xs = bs := by
  apply List.ext_getElem hl
  intro p h1 h2
  apply Nat.eq_of_testBit_eq
  intro j
  have ea : xs.getD p 0 = xs[p] := by rw [List.getD_eq_getElem?_getD, List.getElem?_eq_getElem h1]; rfl
  have eb : bs.getD p 0 = bs[p] := by rw [List.getD_eq_getElem?_getD, List.getElem?_eq_getElem h2]; rfl
  by_cases hj : j < 8
  · have := h (8 * p + j)
    unfold bitB at this
    rw [show (8 * p + j) / 8 = p by omega, show (8 * p + j) % 8 = j by omega, ea, eb] at this
    exact this
  · have la := ha _ (List.getElem_mem h1)
    have lb := hb _ (List.getElem_mem h2)
    have hp : 256 ≤ 2 ^ j := Nat.le_trans (by decide : 256 ≤ 2 ^ 8) (Nat.pow_le_pow_right (by omega) (by omega))
    rw [Nat.testBit_lt_two_pow (by omega), Nat.testBit_lt_two_pow (by omega)]
theorem bit01 (n k : Nat) : decide (n / 2 ^ k % 2 = 1) = n.testBit k := by
  rw [Nat.testBit_eq_decide_div_mod_eq]
/-- One number's bits, the first k of them. -/
def pkE (w i n : Nat) : Nat → List Nat → List Nat
  | 0, bs => bs
  | k + 1, bs => setB (pkE w i n k bs) (i * w + k) (n / 2 ^ k % 2)
theorem pkE_len (w i n : Nat) : ∀ (k : Nat) (bs : List Nat), (pkE w i n k bs).length = bs.length
  | 0, _ => rfl
  | k + 1, bs => by rw [pkE, setB_len, pkE_len w i n k]
theorem pkE_BB (w i n : Nat) : ∀ (k : Nat) {bs : List Nat}, BB bs → BB (pkE w i n k bs)
  | 0, _, h => h
  | k + 1, bs, h => (pkE_BB w i n k h).setB _ (by omega)
theorem pkE_bit (w i n : Nat) : ∀ (k : Nat) (bs : List Nat), i * w + k ≤ 8 * bs.length → ∀ q, bitB (pkE w i n k bs) q = (bitB bs q || (decide (i * w ≤ q) && decide (q < i * w + k) && n.testBit (q - i * w)))
  | 0, bs, _, q => by
    have : (decide (i * w ≤ q) && decide (q < i * w + 0)) = false := by simp
    rw [this]; simp [pkE]
  | k + 1, bs, h, q => by
    rw [pkE, bitB_setB (by rw [pkE_len]; omega) (by omega), pkE_bit w i n k bs (by omega), bit01, Bool.or_assoc]
    congr 1
    by_cases h1 : q = i * w + k
    · subst h1
      have : ¬ i * w + k < i * w + k := by omega
      simp [this]
    · by_cases h2 : q < i * w + k
      · have h3 : q < i * w + (k + 1) := by omega
        simp [h1, h2, h3]
      · have h3 : ¬ q < i * w + (k + 1) := by omega
        simp [h1, h2, h3]
/-- Numbers, from the i-th place on. -/
def pkL (w : Nat) : List Nat → Nat → List Nat → List Nat
  | [], _, bs => bs
  | n :: l, i, bs => pkL w l (i + 1) (pkE w i n w bs)
theorem pkL_len (w : Nat) : ∀ (l : List Nat) (i : Nat) (bs : List Nat), (pkL w l i bs).length = bs.length
  | [], _, _ => rfl
  | n :: l, i, bs => by rw [pkL, pkL_len w l, pkE_len]
theorem pkL_BB (w : Nat) : ∀ (l : List Nat) (i : Nat) {bs : List Nat}, BB bs → BB (pkL w l i bs)
  | [], _, _, h => h
  | n :: l, i, bs, h => pkL_BB w l (i + 1) (pkE_BB w i n w h)
theorem pkL_snoc (w : Nat) : ∀ (l : List Nat) (i n : Nat) (bs : List Nat), pkL w (l ++ [n]) i bs = pkE w (i + l.length) n w (pkL w l i bs)
  | [], i, n, bs => rfl
  | m :: l, i, n, bs => by
    rw [List.cons_append, pkL, pkL_snoc w l, pkL]
    congr 1
    simp; omega
theorem pkL_bit {w : Nat} (hw : 0 < w) : ∀ (l : List Nat) (i : Nat) (bs : List Nat), (i + l.length) * w ≤ 8 * bs.length → ∀ q, bitB (pkL w l i bs) q = (bitB bs q || (decide (i * w ≤ q) && decide (q < (i + l.length) * w) && (l.getD (q / w - i) 0).testBit (q % w)))
  | [], i, bs, _, q => by
    have : (decide (i * w ≤ q) && decide (q < (i + 0) * w)) = false := by simp
    simp only [List.length_nil]
    rw [this]; simp [pkL]
  | n :: l, i, bs, h, q => by
    simp only [List.length_cons] at h ⊢
    have e : (i + 1 + l.length) * w = (i + (l.length + 1)) * w := by congr 1; omega
    have hle : i * w + w ≤ (i + (l.length + 1)) * w := by
      rw [← Nat.succ_mul]; exact Nat.mul_le_mul_right w (by omega)
    rw [pkL, pkL_bit hw l (i + 1) _ (by rw [pkE_len, e]; exact h), pkE_bit w i n w bs (by omega), Bool.or_assoc, e]
    congr 1
    have hs : (i + 1) * w = i * w + w := Nat.succ_mul i w
    by_cases h1 : i * w ≤ q
    · by_cases h2 : q < i * w + w
      · have hd : q / w = i := by
          apply Nat.div_eq_of_lt_le
          · exact h1
          · rw [Nat.succ_mul]; exact h2
        have hm : q % w = q - i * w := by
          have := Nat.div_add_mod q w
          rw [hd, Nat.mul_comm] at this; omega
        have h3 : ¬ (i + 1) * w ≤ q := by omega
        have h4 : q < (i + (l.length + 1)) * w := by omega
        rw [hd, hm, Nat.sub_self]
        simp [h1, h2, h3, h4]
      · have h3 : (i + 1) * w ≤ q := by omega
        have hd : i + 1 ≤ q / w := (Nat.le_div_iff_mul_le hw).2 h3
        rw [show q / w - i = (q / w - (i + 1)) + 1 by omega]
        simp [h1, h2, h3]
    · have h3 : ¬ (i + 1) * w ≤ q := by omega
      simp [h1, h3]
/-- Numbers, packed. -/
def pack (l : List Nat) (w : Nat) : List Nat := pkL w l 0 (List.replicate ((l.length * w + 7) / 8) 0)
theorem pack_len (l : List Nat) (w : Nat) : (pack l w).length = (l.length * w + 7) / 8 := by simp [pack, pkL_len]
theorem pack_BB (l : List Nat) (w : Nat) : BB (pack l w) := pkL_BB w l 0 (fun x hx => by rw [List.eq_of_mem_replicate hx]; decide)
theorem pack_bit (l : List Nat) (w : Nat) (q : Nat) : bitB (pack l w) q = (decide (q < l.length * w) && (l.getD (q / w) 0).testBit (q % w)) := by
  have h0 : ∀ m, bitB (List.replicate m 0) q = false := by
    intro m
    unfold bitB
    rw [List.getD_eq_getElem?_getD, List.getElem?_replicate]
    split <;> simp
  rcases Nat.eq_zero_or_pos w with rfl | hw
  · have : bitB (pack l 0) q = false := by
      unfold bitB
      rw [List.getD_eq_getElem?_getD, List.getElem?_eq_none (by rw [pack_len]; omega)]
      simp
    rw [this]; simp
  · unfold pack
    rw [pkL_bit hw l 0 _ (by simp; omega), h0]
    simp
/-! ### The document's way -/
def numR (n w : Nat) : List Nat := (List.range w).map fun k => n / 2 ^ k % 2
def allR (l : List Nat) (w : Nat) : List Nat := l.flatMap fun n => numR n w
def padR (a : List Nat) : List Nat := a ++ List.replicate ((8 - a.length % 8) % 8) 0
def valR : List Nat → Nat
  | [] => 0
  | b :: l => 2 * valR l + b
def bytesR (a : List Nat) : List Nat := (List.range (a.length / 8)).map fun p => valR ((a.drop (8 * p)).take 8)
theorem numR_len (n w : Nat) : (numR n w).length = w := by simp [numR]
theorem allR_len (w : Nat) : ∀ l : List Nat, (allR l w).length = l.length * w
  | [] => by simp [allR]
  | n :: l => by
    have := allR_len w l
    simp only [allR, List.flatMap_cons, List.length_append, numR_len, List.length_cons] at this ⊢
    rw [this, Nat.succ_mul]; omega
theorem allR_get {w : Nat} (hw : 0 < w) : ∀ (l : List Nat) (q : Nat), q < l.length * w → (allR l w).getD q 0 = l.getD (q / w) 0 / 2 ^ (q % w) % 2
  | [], q, h => by simp at h
  | n :: l, q, h => by
    have e : allR (n :: l) w = numR n w ++ allR l w := rfl
    rw [e]
    by_cases c : q < w
    · rw [List.getD_eq_getElem?_getD, List.getElem?_append_left (by rw [numR_len]; exact c), Nat.div_eq_of_lt c, Nat.mod_eq_of_lt c]
      simp [numR, c]
    · have hq : q - w < l.length * w := by
        simp only [List.length_cons, Nat.succ_mul] at h; omega
      have ih := allR_get hw l (q - w) hq
      rw [List.getD_eq_getElem?_getD, List.getElem?_append_right (by rw [numR_len]; omega), numR_len, ← List.getD_eq_getElem?_getD, ih]
      have hd : q / w = (q - w) / w + 1 := by
        rw [← Nat.add_div_right _ hw]; congr 1; omega
      have hm : q % w = (q - w) % w := by
        rw [Nat.mod_eq_sub_mod (by omega)]
      rw [hd, hm]
      simp
theorem valR_bit : ∀ (l : List Nat), (∀ b ∈ l, b ≤ 1) → ∀ j, (valR l).testBit j = decide (l.getD j 0 = 1)
  | [], _, j => by simp [valR]
  | b :: l, h, j => by
    have hb : b ≤ 1 := h b (by simp)
    have ih := valR_bit l (fun x hx => h x (by simp [hx]))
    rw [valR]
    cases j with
    | zero =>
      rw [Nat.testBit_zero]
      simp only [List.getD_cons_zero]
      apply decide_eq_decide.2
      omega
    | succ j =>
      rw [Nat.testBit_succ, show (2 * valR l + b) / 2 = valR l by omega, ih]
      simp
theorem valR_lt : ∀ (l : List Nat), (∀ b ∈ l, b ≤ 1) → valR l < 2 ^ l.length
  | [], _ => by simp [valR]
  | b :: l, h => by
    have hb : b ≤ 1 := h b (by simp)
    have ih := valR_lt l (fun x hx => h x (by simp [hx]))
    rw [valR, List.length_cons, Nat.pow_succ]; omega
theorem allR_le {w : Nat} {l : List Nat} : ∀ b ∈ allR l w, b ≤ 1 := by
  intro b hb
  simp only [allR, List.mem_flatMap, numR, List.mem_map] at hb
  obtain ⟨n, _, k, _, rfl⟩ := hb
  omega
theorem padR_le {a : List Nat} (h : ∀ b ∈ a, b ≤ 1) : ∀ b ∈ padR a, b ≤ 1 := by
  intro b hb
  rcases List.mem_append.1 hb with hb | hb
  · exact h b hb
  · rw [List.eq_of_mem_replicate hb]; decide
theorem padR_len (a : List Nat) : (padR a).length = (a.length + 7) / 8 * 8 := by
  simp only [padR, List.length_append, List.length_replicate]; omega
theorem padR_get (a : List Nat) (q : Nat) : (padR a).getD q 0 = a.getD q 0 := by
  simp only [padR, List.getD_eq_getElem?_getD]
  by_cases c : q < a.length
  · rw [List.getElem?_append_left c]
  · rw [List.getElem?_append_right (by omega), List.getElem?_eq_none (l := a) (by omega), List.getElem?_replicate]
    split <;> rfl
theorem bytesR_len (a : List Nat) : (bytesR a).length = a.length / 8 := by simp [bytesR]
theorem bytesR_BB {a : List Nat} (h : ∀ b ∈ a, b ≤ 1) : BB (bytesR a) := by
  intro x hx
  simp only [bytesR, List.mem_map] at hx
  obtain ⟨p, _, rfl⟩ := hx
  have h1 := valR_lt ((a.drop (8 * p)).take 8) (fun b hb => h b (List.mem_of_mem_drop (List.mem_of_mem_take hb)))
  have h2 : 2 ^ ((a.drop (8 * p)).take 8).length ≤ 2 ^ 8 := Nat.pow_le_pow_right (by omega) (by rw [List.length_take]; omega)
  omega
theorem bytesR_bit {a : List Nat} (h : ∀ b ∈ a, b ≤ 1) (h8 : a.length % 8 = 0) (q : Nat) : bitB (bytesR a) q = decide (a.getD q 0 = 1) := by
  unfold bitB
  by_cases c : q / 8 < a.length / 8
  · have e : (bytesR a).getD (q / 8) 0 = valR ((a.drop (8 * (q / 8))).take 8) := by
      rw [List.getD_eq_getElem?_getD]; simp [bytesR, c]
    rw [e, valR_bit _ (fun b hb => h b (List.mem_of_mem_drop (List.mem_of_mem_take hb)))]
    have e2 : ((a.drop (8 * (q / 8))).take 8).getD (q % 8) 0 = a.getD q 0 := by
      simp only [List.getD_eq_getElem?_getD]
      rw [List.getElem?_take_of_lt (by omega), List.getElem?_drop]
      congr 2; omega
    rw [e2]
  · rw [List.getD_eq_getElem?_getD, List.getElem?_eq_none (by rw [bytesR_len]; omega), List.getD_eq_getElem?_getD, List.getElem?_eq_none (by omega)]
    simp
theorem packR (l : List Nat) (w : Nat) : bytesR (padR (allR l w)) = pack l w := by
  apply bytes_ext
  · rw [bytesR_len, padR_len, allR_len, pack_len]; omega
  · exact bytesR_BB (padR_le allR_le)
  · exact pack_BB l w
  · intro q
    rw [bytesR_bit (padR_le allR_le) (by rw [padR_len]; omega), padR_get, pack_bit]
    by_cases c : q < l.length * w
    · have hw : 0 < w := by
        rcases Nat.eq_zero_or_pos w with rfl | h
        · omega
        · exact h
      rw [allR_get hw l q c, bit01]; simp [c]
    · rw [List.getD_eq_getElem?_getD, List.getElem?_eq_none (by rw [allR_len]; omega)]
      simp [c]
set_option maxRecDepth 10000
abbrev bD (n : Nat) : DV := .int .u8 (n : Int)
/-- How wide numbers are. -/
def wN (n : Nat) : Nat := Go.Sort.bitsLen n
theorem run102 (n : Nat) (hn : n < 256) (h : ZY) : E X 102 [.int .i64 n] h = some (.int .i64 (wN n : Nat), h) := by
  have e := run128 n hn h
  have m1 := mm_clamp n
  have u1 : IntKind.u64.wrap (n : Int) = (n : Int) := by rw [wrapu, Nat.mod_eq_of_lt (by omega)]
  rw [Yt (X := X) _ b102 _ rfl rfl]; unfold b102; (repeat (first | rw [ZB] | rw [Zc (by simp [ZN, ZE, ZG, ZH, Zy, Zj, Zw, Zm, Zo, Zd, Ze, Zn, Zz, ZA, ZI, ↓Zl, Zx, Zk, ZF, Zq, Zp, ZZ, ZD, Yk, put, lk, Od.v, Za, Zi, Zu, Yn, Yd, Ye, Yf, Yo, Yl, DV.isU, DV.cells, hget, ZO, Yc, ZP, Zv, splice, DV.one, ZQ, mat, Ya, Ym, e, m1, u1, wN]; exact ⟨rfl, rfl⟩)] | rw [ZR (by simp [lk, Za, Od.v, e, m1, u1, wN]; exact rfl)] | rw [Zq] | rw [Zp] | rw [ZJ] | rw [ZU] | rw [ZK] | rw [ZT] | rw [ZM] | rw [ZL] | rw [ZC] | rw [Zs] | rw [Zt] | rw [Zh (by decide)] | rw [Zr] | rw [Zf] | rw [Zg] | rw [Zb (by decide)] | rw [ZX] | rw [ZV (by simp [ZN, ZE, ZG, ZH, Zy, Zj, Zw, Zm, Zo, Zd, Ze, Zn, Zz, ZA, ZI, ↓Zl, Zx, Zk, ZF, Zq, Zp, ZZ, ZD, Yk, put, lk, Od.v, Za, Zi, Zu, Yn, Yd, Ye, Yf, Yo, Yl, DV.isU, DV.cells, hget, ZO, Yc, ZP, Zv, splice, DV.one, ZQ, mat, Ya, Ym, e, m1, u1, wN]; exact ⟨rfl, rfl⟩)] | rw [ZW (by simp [lk, Za, Od.v, e, m1, u1, wN]; exact rfl)] | rw [ZS])); simp [Yb, Yg, Yq, ZN, ZE, ZG, ZH, Zy, Zj, Zw, Zm, Zo, Zd, Ze, Zn, Zz, ZA, ZI, ↓Zl, Zx, Zk, ZF, Zq, Zp, ZZ, ZD, Yk, put, lk, Od.v, Za, Zi, Zu, Yn, Yd, Ye, Yf, Yo, Yl, DV.isU, DV.cells, hget, ZO, Yc, ZP, Zv, splice, DV.one, ZQ, mat, Ya, Ym, fin, fz0, fz1, fzT, fzL, nlt, e, m1, u1, wN]
theorem run102m (h : ZY) : E X 102 [.int .i64 (-1)] h = some (.int .i64 0, h) := by
  have e := run128 0 (by omega) h
  have m1 : mm true .i64 (-1) [.int .i64 0] = some 0 := by rfl
  have u1 : IntKind.u64.wrap (0 : Int) = 0 := by rfl
  have b0 : Go.Sort.bitsLen 0 = 0 := rfl
  rw [b0, show ((0 : Nat) : Int) = 0 from rfl] at e
  rw [Yt (X := X) _ b102 _ rfl rfl]; unfold b102; (repeat (first | rw [ZB] | rw [Zc (by simp [ZN, ZE, ZG, ZH, Zy, Zj, Zw, Zm, Zo, Zd, Ze, Zn, Zz, ZA, ZI, ↓Zl, Zx, Zk, ZF, Zq, Zp, ZZ, ZD, Yk, put, lk, Od.v, Za, Zi, Zu, Yn, Yd, Ye, Yf, Yo, Yl, DV.isU, DV.cells, hget, ZO, Yc, ZP, Zv, splice, DV.one, ZQ, mat, Ya, Ym, e, m1, u1]; exact ⟨rfl, rfl⟩)] | rw [ZR (by simp [lk, Za, Od.v, e, m1, u1]; exact rfl)] | rw [Zq] | rw [Zp] | rw [ZJ] | rw [ZU] | rw [ZK] | rw [ZT] | rw [ZM] | rw [ZL] | rw [ZC] | rw [Zs] | rw [Zt] | rw [Zh (by decide)] | rw [Zr] | rw [Zf] | rw [Zg] | rw [Zb (by decide)] | rw [ZX] | rw [ZV (by simp [ZN, ZE, ZG, ZH, Zy, Zj, Zw, Zm, Zo, Zd, Ze, Zn, Zz, ZA, ZI, ↓Zl, Zx, Zk, ZF, Zq, Zp, ZZ, ZD, Yk, put, lk, Od.v, Za, Zi, Zu, Yn, Yd, Ye, Yf, Yo, Yl, DV.isU, DV.cells, hget, ZO, Yc, ZP, Zv, splice, DV.one, ZQ, mat, Ya, Ym, e, m1, u1]; exact ⟨rfl, rfl⟩)] | rw [ZW (by simp [lk, Za, Od.v, e, m1, u1]; exact rfl)] | rw [ZS])); simp [Yb, Yg, Yq, ZN, ZE, ZG, ZH, Zy, Zj, Zw, Zm, Zo, Zd, Ze, Zn, Zz, ZA, ZI, ↓Zl, Zx, Zk, ZF, Zq, Zp, ZZ, ZD, Yk, put, lk, Od.v, Za, Zi, Zu, Yn, Yd, Ye, Yf, Yo, Yl, DV.isU, DV.cells, hget, ZO, Yc, ZP, Zv, splice, DV.one, ZQ, mat, Ya, Ym, fin, fz0, fz1, fzT, fzL, nlt, e, m1, u1]
/-- The width of a column of so many values. -/
def wC (n : Nat) : Nat := wN (n - 1)
theorem run62 (n : Nat) (hn : n ≤ 256) (h : ZY) : E X 62 [.int .i64 n] h = some (.int .i64 (wC n : Nat), h) := by
  rcases Nat.eq_zero_or_pos n with rfl | hp
  · have e := run102m h
    have z : IntKind.i64.wrap (-1) = -1 := by rfl
    have b0 : wC 0 = 0 := rfl
    rw [b0]
    rw [Yt (X := X) _ b62 _ rfl rfl]; unfold b62; (repeat (first | rw [ZB] | rw [Zc (by simp [ZN, ZE, ZG, ZH, Zy, Zj, Zw, Zm, Zo, Zd, Ze, Zn, Zz, ZA, ZI, ↓Zl, Zx, Zk, ZF, Zq, Zp, ZZ, ZD, Yk, put, lk, Od.v, Za, Zi, Zu, Yn, Yd, Ye, Yf, Yo, Yl, DV.isU, DV.cells, hget, ZO, Yc, ZP, Zv, splice, DV.one, ZQ, mat, Ya, Ym, e, z]; exact ⟨rfl, rfl⟩)] | rw [ZR (by simp [lk, Za, Od.v, e, z]; exact rfl)] | rw [Zq] | rw [Zp] | rw [ZJ] | rw [ZU] | rw [ZK] | rw [ZT] | rw [ZM] | rw [ZL] | rw [ZC] | rw [Zs] | rw [Zt] | rw [Zh (by decide)] | rw [Zr] | rw [Zf] | rw [Zg] | rw [Zb (by decide)] | rw [ZX] | rw [ZV (by simp [ZN, ZE, ZG, ZH, Zy, Zj, Zw, Zm, Zo, Zd, Ze, Zn, Zz, ZA, ZI, ↓Zl, Zx, Zk, ZF, Zq, Zp, ZZ, ZD, Yk, put, lk, Od.v, Za, Zi, Zu, Yn, Yd, Ye, Yf, Yo, Yl, DV.isU, DV.cells, hget, ZO, Yc, ZP, Zv, splice, DV.one, ZQ, mat, Ya, Ym, e, z]; exact ⟨rfl, rfl⟩)] | rw [ZW (by simp [lk, Za, Od.v, e, z]; exact rfl)] | rw [ZS])); simp [Yb, Yg, Yq, ZN, ZE, ZG, ZH, Zy, Zj, Zw, Zm, Zo, Zd, Ze, Zn, Zz, ZA, ZI, ↓Zl, Zx, Zk, ZF, Zq, Zp, ZZ, ZD, Yk, put, lk, Od.v, Za, Zi, Zu, Yn, Yd, Ye, Yf, Yo, Yl, DV.isU, DV.cells, hget, ZO, Yc, ZP, Zv, splice, DV.one, ZQ, mat, Ya, Ym, fin, fz0, fz1, fzT, fzL, nlt, e, z]
  · obtain ⟨k, hk⟩ : ∃ k, k = n - 1 := ⟨_, rfl⟩
    have e := run102 k (by omega) h
    have z : IntKind.i64.wrap ((n : Int) - 1) = (k : Int) := (by rw [wrap64 _ (by omega) (by omega)]; omega)
    have b0 : wC n = wN k := by rw [hk]; rfl
    rw [b0]
    rw [Yt (X := X) _ b62 _ rfl rfl]; unfold b62; (repeat (first | rw [ZB] | rw [Zc (by simp [ZN, ZE, ZG, ZH, Zy, Zj, Zw, Zm, Zo, Zd, Ze, Zn, Zz, ZA, ZI, ↓Zl, Zx, Zk, ZF, Zq, Zp, ZZ, ZD, Yk, put, lk, Od.v, Za, Zi, Zu, Yn, Yd, Ye, Yf, Yo, Yl, DV.isU, DV.cells, hget, ZO, Yc, ZP, Zv, splice, DV.one, ZQ, mat, Ya, Ym, e, z]; exact ⟨rfl, rfl⟩)] | rw [ZR (by simp [lk, Za, Od.v, e, z]; exact rfl)] | rw [Zq] | rw [Zp] | rw [ZJ] | rw [ZU] | rw [ZK] | rw [ZT] | rw [ZM] | rw [ZL] | rw [ZC] | rw [Zs] | rw [Zt] | rw [Zh (by decide)] | rw [Zr] | rw [Zf] | rw [Zg] | rw [Zb (by decide)] | rw [ZX] | rw [ZV (by simp [ZN, ZE, ZG, ZH, Zy, Zj, Zw, Zm, Zo, Zd, Ze, Zn, Zz, ZA, ZI, ↓Zl, Zx, Zk, ZF, Zq, Zp, ZZ, ZD, Yk, put, lk, Od.v, Za, Zi, Zu, Yn, Yd, Ye, Yf, Yo, Yl, DV.isU, DV.cells, hget, ZO, Yc, ZP, Zv, splice, DV.one, ZQ, mat, Ya, Ym, e, z]; exact ⟨rfl, rfl⟩)] | rw [ZW (by simp [lk, Za, Od.v, e, z]; exact rfl)] | rw [ZS])); simp [Yb, Yg, Yq, ZN, ZE, ZG, ZH, Zy, Zj, Zw, Zm, Zo, Zd, Ze, Zn, Zz, ZA, ZI, ↓Zl, Zx, Zk, ZF, Zq, Zp, ZZ, ZD, Yk, put, lk, Od.v, Za, Zi, Zu, Yn, Yd, Ye, Yf, Yo, Yl, DV.isU, DV.cells, hget, ZO, Yc, ZP, Zv, splice, DV.one, ZQ, mat, Ya, Ym, fin, fz0, fz1, fzT, fzL, nlt, e, z]
theorem run101 (n w : Nat) (hn : n ≤ 100000) (hw : w ≤ 62) (h : ZY) : E X 101 [.int .i64 n, .int .i64 w] h = some (.int .i64 ((n * w + 7) / 8 : Nat), h) := by
  have hm : n * w ≤ 100000 * 62 := Nat.mul_le_mul hn hw
  obtain ⟨P, hP⟩ : ∃ P, P = n * w := ⟨_, rfl⟩
  have z1 : IntKind.i64.wrap ((n : Int) * (w : Int)) = (P : Int) := by
    rw [← Int.natCast_mul, ← hP, wrap64 _ (by omega) (by omega)]
  obtain ⟨Q, hQ⟩ : ∃ Q, Q = P + 7 := ⟨_, rfl⟩
  have z2 : IntKind.i64.wrap ((P : Int) + 7) = (Q : Int) := (by rw [wrap64 _ (by omega) (by omega)]; omega)
  obtain ⟨R, hR⟩ : ∃ R, R = Q / 8 := ⟨_, rfl⟩
  have z3 : IntKind.i64.wrap ((Q : Int) / 8) = (R : Int) := (by rw [wrap64 _ (by omega) (by omega)]; omega)
  rw [← hP, ← hQ, ← hR]
  clear hP hQ hR hm
  rw [Yt (X := X) _ b101 _ rfl rfl]; unfold b101; (repeat (first | rw [ZB] | rw [Zc (by simp [ZN, ZE, ZG, ZH, Zy, Zj, Zw, Zm, Zo, Zd, Ze, Zn, Zz, ZA, ZI, ↓Zl, Zx, Zk, ZF, Zq, Zp, ZZ, ZD, Yk, put, lk, Od.v, Za, Zi, Zu, Yn, Yd, Ye, Yf, Yo, Yl, DV.isU, DV.cells, hget, ZO, Yc, ZP, Zv, splice, DV.one, ZQ, mat, Ya, Ym, z1, z2, z3]; exact ⟨rfl, rfl⟩)] | rw [ZR (by simp [lk, Za, Od.v, z1, z2, z3]; exact rfl)] | rw [Zq] | rw [Zp] | rw [ZJ] | rw [ZU] | rw [ZK] | rw [ZT] | rw [ZM] | rw [ZL] | rw [ZC] | rw [Zs] | rw [Zt] | rw [Zh (by decide)] | rw [Zr] | rw [Zf] | rw [Zg] | rw [Zb (by decide)] | rw [ZX] | rw [ZV (by simp [ZN, ZE, ZG, ZH, Zy, Zj, Zw, Zm, Zo, Zd, Ze, Zn, Zz, ZA, ZI, ↓Zl, Zx, Zk, ZF, Zq, Zp, ZZ, ZD, Yk, put, lk, Od.v, Za, Zi, Zu, Yn, Yd, Ye, Yf, Yo, Yl, DV.isU, DV.cells, hget, ZO, Yc, ZP, Zv, splice, DV.one, ZQ, mat, Ya, Ym, z1, z2, z3]; exact ⟨rfl, rfl⟩)] | rw [ZW (by simp [lk, Za, Od.v, z1, z2, z3]; exact rfl)] | rw [ZS])); simp [Yb, Yg, Yq, ZN, ZE, ZG, ZH, Zy, Zj, Zw, Zm, Zo, Zd, Ze, Zn, Zz, ZA, ZI, ↓Zl, Zx, Zk, ZF, Zq, Zp, ZZ, ZD, Yk, put, lk, Od.v, Za, Zi, Zu, Yn, Yd, Ye, Yf, Yo, Yl, DV.isU, DV.cells, hget, ZO, Yc, ZP, Zv, splice, DV.one, ZQ, mat, Ya, Ym, fin, fz0, fz1, fzT, fzL, nlt, z1, z2, z3]
theorem run100 (w : Nat) (hw : w ≤ 62) (h : ZY) : E X 100 [.int .i64 w] h = some (.bool true, h) := by
  have h2 : (w : Int) ≤ 62 := by omega
  rw [Yt (X := X) _ b100 _ rfl rfl]; unfold b100; (repeat (first | rw [ZB] | rw [Zc (by simp [ZN, ZE, ZG, ZH, Zy, Zj, Zw, Zm, Zo, Zd, Ze, Zn, Zz, ZA, ZI, ↓Zl, Zx, Zk, ZF, Zq, Zp, ZZ, ZD, Yk, put, lk, Od.v, Za, Zi, Zu, Yn, Yd, Ye, Yf, Yo, Yl, DV.isU, DV.cells, hget, ZO, Yc, ZP, Zv, splice, DV.one, ZQ, mat, Ya, Ym, h2, hw]; exact ⟨rfl, rfl⟩)] | rw [ZR (by simp [lk, Za, Od.v, h2, hw]; exact rfl)] | rw [Zq] | rw [Zp] | rw [ZJ] | rw [ZU] | rw [ZK] | rw [ZT] | rw [ZM] | rw [ZL] | rw [ZC] | rw [Zs] | rw [Zt] | rw [Zh (by decide)] | rw [Zr] | rw [Zf] | rw [Zg] | rw [Zb (by decide)] | rw [ZX] | rw [ZV (by simp [ZN, ZE, ZG, ZH, Zy, Zj, Zw, Zm, Zo, Zd, Ze, Zn, Zz, ZA, ZI, ↓Zl, Zx, Zk, ZF, Zq, Zp, ZZ, ZD, Yk, put, lk, Od.v, Za, Zi, Zu, Yn, Yd, Ye, Yf, Yo, Yl, DV.isU, DV.cells, hget, ZO, Yc, ZP, Zv, splice, DV.one, ZQ, mat, Ya, Ym, h2, hw]; exact ⟨rfl, rfl⟩)] | rw [ZW (by simp [lk, Za, Od.v, h2, hw]; exact rfl)] | rw [ZS])); simp [Yb, Yg, Yq, ZN, ZE, ZG, ZH, Zy, Zj, Zw, Zm, Zo, Zd, Ze, Zn, Zz, ZA, ZI, ↓Zl, Zx, Zk, ZF, Zq, Zp, ZZ, ZD, Yk, put, lk, Od.v, Za, Zi, Zu, Yn, Yd, Ye, Yf, Yo, Yl, DV.isU, DV.cells, hget, ZO, Yc, ZP, Zv, splice, DV.one, ZQ, mat, Ya, Ym, fin, fz0, fz1, fzT, fzL, nlt, h2, hw]
/-- A call that tells nothing. -/
theorem finU {h h' : ZY} (hl : h'.length = h.length) : fin h h' [] = (.tup [], h') := by
  unfold fin
  split
  · rename_i hd; cases hd
  · split
    · rename_i ht
      rw [List.take_of_length_le (by omega)] at ht
      subst ht
      rfl
    · rfl
theorem loop103 {f w i : Nat} {cap : List DV} {S : Nat → ZY} (hw : w ≤ 62) (hi : i ≤ 100000) (hf : ∀ k, k < w → E X f (.int .i64 (i * w + k : Nat) :: .int .i64 k :: cap) (S k) = some (.tup [], S (k + 1))) :
    ∀ (m k : Nat), w - k ≤ m → k ≤ w → ∃ y ex, C X (.loop lp103_0) [(0, .int .i64 i), (1, .int .i64 w), (2, .func f [] cap), (7, .int .i64 w), (8, .int .i64 k)] (S k) = some (.exit 0, (0, .int .i64 i) :: (1, .int .i64 w) :: (2, .func f [] cap) :: (7, .int .i64 w) :: (8, y) :: ex, S w) := by
  intro m
  induction m with
  | zero =>
    intro k hm hk
    obtain rfl : k = w := by omega
    refine ⟨.int .i64 k, [(9, .bool false)], ?_⟩
    rw [Yh]
    unfold lp103_0
    (repeat (first | rw [ZB] | rw [Zc (by simp [ZN, ZE, ZG, ZH, Zy, Zj, Zw, Zm, Zo, Zd, Ze, Zn, Zz, ZA, ZI, ↓Zl, Zx, Zk, ZF, Zq, Zp, ZZ, ZD, Yk, put, lk, Od.v, Za, Zi, Zu, Yn, Yd, Ye, Yf, Yo, Yl, DV.isU, DV.cells, hget, ZO, Yc, ZP, Zv, splice, DV.one, ZQ, mat, Ya, Ym]; exact ⟨rfl, rfl⟩)] | rw [ZR (by simp [lk, Za, Od.v]; exact rfl)] | rw [Zq] | rw [Zp] | rw [ZJ] | rw [ZU] | rw [ZK] | rw [ZT] | rw [ZM] | rw [ZL] | rw [ZC] | rw [Zs] | rw [Zt] | rw [Zh (by decide)] | rw [Zr] | rw [Zf] | rw [Zg] | rw [Zb (by decide)] | rw [ZX] | rw [ZV (by simp [ZN, ZE, ZG, ZH, Zy, Zj, Zw, Zm, Zo, Zd, Ze, Zn, Zz, ZA, ZI, ↓Zl, Zx, Zk, ZF, Zq, Zp, ZZ, ZD, Yk, put, lk, Od.v, Za, Zi, Zu, Yn, Yd, Ye, Yf, Yo, Yl, DV.isU, DV.cells, hget, ZO, Yc, ZP, Zv, splice, DV.one, ZQ, mat, Ya, Ym]; exact ⟨rfl, rfl⟩)] | rw [ZW (by simp [lk, Za, Od.v]; exact rfl)] | rw [ZS]))
    rw [Yp]
    simp [Za, lk]
  | succ m ih =>
    intro k hm hk
    by_cases c : k < w
    · obtain ⟨K, hK⟩ : ∃ K, K = k + 1 := ⟨_, rfl⟩
      have z1 : IntKind.i64.wrap ((k : Int) + 1) = (K : Int) := (by rw [wrap64 _ (by omega) (by omega)]; omega)
      have hmul : i * w ≤ 100000 * 62 := Nat.mul_le_mul hi hw
      have e := hf k c
      obtain ⟨P, hP⟩ : ∃ P, P = i * w := ⟨_, rfl⟩
      have z2 : IntKind.i64.wrap ((i : Int) * (w : Int)) = (P : Int) := by
        rw [← Int.natCast_mul, ← hP, wrap64 _ (by omega) (by omega)]
      obtain ⟨Q, hQ⟩ : ∃ Q, Q = P + k := ⟨_, rfl⟩
      have z3 : IntKind.i64.wrap ((P : Int) + (k : Int)) = (Q : Int) := (by rw [wrap64 _ (by omega) (by omega)]; omega)
      rw [← hP, ← hQ, ← hK] at e
      have hs : C X lp103_0 [(0, .int .i64 i), (1, .int .i64 w), (2, .func f [] cap), (7, .int .i64 w), (8, .int .i64 k)] (S k) = some (.norm, [(0, .int .i64 i), (1, .int .i64 w), (2, .func f [] cap), (7, .int .i64 w), (8, .int .i64 K)], S K) := by
        clear ih hf hP hQ hmul
        generalize S k = s1 at *
        generalize S K = s2 at *
        unfold lp103_0
        (repeat (first | rw [ZB] | rw [Zc (by simp [ZN, ZE, ZG, ZH, Zy, Zj, Zw, Zm, Zo, Zd, Ze, Zn, Zz, ZA, ZI, ↓Zl, Zx, Zk, ZF, Zq, Zp, ZZ, ZD, Yk, put, lk, Od.v, Za, Zi, Zu, Yn, Yd, Ye, Yf, Yo, Yl, DV.isU, DV.cells, hget, ZO, Yc, ZP, Zv, splice, DV.one, ZQ, mat, Ya, Ym, c, z1, z2, z3, e]; exact ⟨rfl, rfl⟩)] | rw [ZR (by simp [lk, Za, Od.v, c, z1, z2, z3, e]; exact rfl)] | rw [Zq] | rw [Zp] | rw [ZJ] | rw [ZU] | rw [ZK] | rw [ZT] | rw [ZM] | rw [ZL] | rw [ZC] | rw [Zs] | rw [Zt] | rw [Zh (by decide)] | rw [Zr] | rw [Zf] | rw [Zg] | rw [Zb (by decide)] | rw [ZX] | rw [ZV (by simp [ZN, ZE, ZG, ZH, Zy, Zj, Zw, Zm, Zo, Zd, Ze, Zn, Zz, ZA, ZI, ↓Zl, Zx, Zk, ZF, Zq, Zp, ZZ, ZD, Yk, put, lk, Od.v, Za, Zi, Zu, Yn, Yd, Ye, Yf, Yo, Yl, DV.isU, DV.cells, hget, ZO, Yc, ZP, Zv, splice, DV.one, ZQ, mat, Ya, Ym, c, z1, z2, z3, e]; exact ⟨rfl, rfl⟩)] | rw [ZW (by simp [lk, Za, Od.v, c, z1, z2, z3, e]; exact rfl)] | rw [ZS]))
        simp [Za, lk]
      rw [Yh, hs, Ys]
      exact ih K (by omega) (by omega)
    · exact ih k (by omega) hk
theorem run103 {f w i : Nat} {cap : List DV} {S : Nat → ZY} (hw : w ≤ 62) (hi : i ≤ 100000) (hf : ∀ k, k < w → E X f (.int .i64 (i * w + k : Nat) :: .int .i64 k :: cap) (S k) = some (.tup [], S (k + 1))) (hl : (S w).length = (S 0).length) :
    E X 103 [.int .i64 i, .int .i64 w, .func f [] cap] (S 0) = some (.tup [], S w) := by
  obtain ⟨y, ex, hc⟩ := loop103 hw hi hf w 0 (by omega) (by omega)
  rw [show ((0 : Nat) : Int) = 0 from rfl] at hc
  have hfin := finU hl
  generalize S 0 = s1 at *
  generalize S w = s2 at *
  rw [Yt (X := X) _ b103 _ rfl rfl]; unfold b103
  (repeat (first | rw [ZB] | rw [Zc (by simp [ZN, ZE, ZG, ZH, Zy, Zj, Zw, Zm, Zo, Zd, Ze, Zn, Zz, ZA, ZI, ↓Zl, Zx, Zk, ZF, Zq, Zp, ZZ, ZD, Yk, put, lk, Od.v, Za, Zi, Zu, Yn, Yd, Ye, Yf, Yo, Yl, DV.isU, DV.cells, hget, ZO, Yc, ZP, Zv, splice, DV.one, ZQ, mat, Ya, Ym]; exact ⟨rfl, rfl⟩)] | rw [ZR (by simp [lk, Za, Od.v]; exact rfl)] | rw [Zq] | rw [Zp] | rw [ZJ] | rw [ZU] | rw [ZK] | rw [ZT] | rw [ZM] | rw [ZL] | rw [ZC] | rw [Zs] | rw [Zt] | rw [Zh (by decide)] | rw [Zr] | rw [Zf] | rw [Zg] | rw [Zb (by decide)] | rw [ZX] | rw [ZV (by simp [ZN, ZE, ZG, ZH, Zy, Zj, Zw, Zm, Zo, Zd, Ze, Zn, Zz, ZA, ZI, ↓Zl, Zx, Zk, ZF, Zq, Zp, ZZ, ZD, Yk, put, lk, Od.v, Za, Zi, Zu, Yn, Yd, Ye, Yf, Yo, Yl, DV.isU, DV.cells, hget, ZO, Yc, ZP, Zv, splice, DV.one, ZQ, mat, Ya, Ym]; exact ⟨rfl, rfl⟩)] | rw [ZW (by simp [lk, Za, Od.v]; exact rfl)] | rw [ZS]))
  (try simp only [Za, List.map_cons, List.map_nil, lk, reduceIte, Nat.reduceEqDiff, Nat.zero_ne_one, Nat.one_ne_zero])
  rw [hc]
  (repeat (first | rw [ZB] | rw [Zc (by simp [ZN, ZE, ZG, ZH, Zy, Zj, Zw, Zm, Zo, Zd, Ze, Zn, Zz, ZA, ZI, ↓Zl, Zx, Zk, ZF, Zq, Zp, ZZ, ZD, Yk, put, lk, Od.v, Za, Zi, Zu, Yn, Yd, Ye, Yf, Yo, Yl, DV.isU, DV.cells, hget, ZO, Yc, ZP, Zv, splice, DV.one, ZQ, mat, Ya, Ym]; exact ⟨rfl, rfl⟩)] | rw [ZR (by simp [lk, Za, Od.v]; exact rfl)] | rw [Zq] | rw [Zp] | rw [ZJ] | rw [ZU] | rw [ZK] | rw [ZT] | rw [ZM] | rw [ZL] | rw [ZC] | rw [Zs] | rw [Zt] | rw [Zh (by decide)] | rw [Zr] | rw [Zf] | rw [Zg] | rw [Zb (by decide)] | rw [ZX] | rw [ZV (by simp [ZN, ZE, ZG, ZH, Zy, Zj, Zw, Zm, Zo, Zd, Ze, Zn, Zz, ZA, ZI, ↓Zl, Zx, Zk, ZF, Zq, Zp, ZZ, ZD, Yk, put, lk, Od.v, Za, Zi, Zu, Yn, Yd, Ye, Yf, Yo, Yl, DV.isU, DV.cells, hget, ZO, Yc, ZP, Zv, splice, DV.one, ZQ, mat, Ya, Ym]; exact ⟨rfl, rfl⟩)] | rw [ZW (by simp [lk, Za, Od.v]; exact rfl)] | rw [ZS]))
  rw [Yg]
  simp only [Yq, Option.map_some, hfin]
/-- The bytes that are made, and the numbers that went. -/
def ph (H : ZY) (bs : List Nat) (m : Nat) (ns : ZY) : ZY := H ++ (.row 5 1 0 (bs.map bD) :: .box 51 [.row H.length 0 0 m false] :: ns)
section
variable {H ns : ZY} {bs : List Nat} {m : Nat}
theorem ph_box : (ph H bs m ns)[H.length + 1]? = some (.box 51 [.row H.length 0 0 m false]) := by simp [ph, hget]
theorem ph_row : (ph H bs m ns)[H.length]? = some (.row 5 1 0 (bs.map bD)) := by simp [ph]
theorem ph_n (n : DV) : (ph H bs m (ns ++ [.box 3 [n]]))[H.length + 2 + ns.length]? = some (.box 3 [n]) := by
  rw [ph, List.getElem?_append_right (by omega), show H.length + 2 + ns.length - H.length = ns.length + 1 + 1 by omega, List.getElem?_cons_succ, List.getElem?_cons_succ, List.getElem?_append_right (by omega)]
  simp
theorem ph_vw (hm : bs.length = m) : vw (ph H bs m ns) 1 (.row H.length 0 0 m false) = some (bs.map bD) := by
  subst hm; simp [vw, ph_row, List.take_of_length_le]
theorem ph_wr (hm : bs.length = m) {i : Nat} (hi : i < m) (x : Nat) : stx (ph H bs m ns) 1 (.elem (.row H.length 0 0 m false) 1 i 0) (.int .u8 x) = some (ph H (bs.set i x) m ns) := by
  subst hm
  have h1 : (ph H bs bs.length ns)[H.length]? = some (.row 5 1 0 (bs.map bD)) := ph_row
  have h2 : (bs.map bD)[i]? = some (bD bs[i]) := by simp [List.getElem?_eq_getElem hi]
  rw [stx, if_pos (by simp [DV.cells, DV.one])]
  simp only [h1]
  rw [if_pos (by simp [hi])]
  simp only [Nat.zero_add, h2]
  simp [eput, DV.one, ph, Yc]
theorem ph_len : (ph H bs m ns).length = H.length + 2 + ns.length := by simp [ph]; omega
end
theorem wrap8 {n : Nat} (h : n < 256) : IntKind.u8.wrap (n : Int) = (n : Int) := by
  simp [IntKind.wrap, IntKind.bits, IntKind.signed]
  omega
theorem run104 {H ns : ZY} {bs : List Nat} {m n a k : Nat} (hm : bs.length = m) (bb : BB bs) (ha : a / 8 < m) (ha' : a < 10000000) (hk : k ≤ 62) (hn : n < 256) :
    E X 104 [.int .i64 a, .int .i64 k, .ref (H.length + 1) 0, .ref (H.length + 2 + ns.length) 0] (ph H bs m (ns ++ [.box 3 [.int .i64 n]])) = some (.tup [], ph H (setB bs a (n / 2 ^ k % 2)) m (ns ++ [.box 3 [.int .i64 n]])) := by
  obtain ⟨p, hp⟩ : ∃ p, p = a / 8 := ⟨_, rfl⟩
  obtain ⟨j, hj⟩ : ∃ j, j = a % 8 := ⟨_, rfl⟩
  obtain ⟨q, hq⟩ : ∃ q, q = n / 2 ^ k := ⟨_, rfl⟩
  obtain ⟨c, hc⟩ : ∃ c, c = q % 2 := ⟨_, rfl⟩
  have hc1 : c ≤ 1 := by omega
  have hj8 : j < 8 := by omega
  have hqn : q ≤ n := by rw [hq]; exact Nat.div_le_self _ _
  have hp' : p < bs.length := by omega
  have e1 : bs.getD p 0 = bs[p] := by rw [List.getD_eq_getElem?_getD, List.getElem?_eq_getElem hp']; rfl
  have hb := bb _ (List.getElem_mem hp')
  have hcj : c * 2 ^ j < 256 := by
    have : 2 ^ j ≤ 2 ^ 7 := Nat.pow_le_pow_right (by omega) (by omega)
    have : c * 2 ^ j ≤ 1 * 2 ^ 7 := Nat.mul_le_mul hc1 this
    omega
  have hob := or_byte hb hc1 hj8
  have hS : setB bs a (n / 2 ^ k % 2) = bs.set p (bs[p] ||| c * 2 ^ j) := by rw [← hq, ← hc, setB, ← hp, ← hj, e1]
  rw [hS]
  have f1 := @ph_box H (ns ++ [.box 3 [.int .i64 n]]) bs m
  have f2 := ph_vw (H := H) (ns := ns ++ [.box 3 [.int .i64 n]]) hm
  have f3 := @ph_n H ns bs m (.int .i64 n)
  have f4 := ph_wr (H := H) (ns := ns ++ [.box 3 [.int .i64 n]]) hm (i := p) (by omega) (bs[p] ||| c * 2 ^ j)
  have f5 : fin (ph H bs m (ns ++ [.box 3 [.int .i64 n]])) (ph H (bs.set p (bs[p] ||| c * 2 ^ j)) m (ns ++ [.box 3 [.int .i64 n]])) [] = _ := finU (by rw [ph_len, ph_len])
  have z1 : IntKind.i64.wrap ((a : Int) / 8) = (p : Int) := (by rw [wrap64 _ (by omega) (by omega)]; omega)
  have z2 : ((a : Int)).tmod 8 = (j : Int) := by rw [Int.tmod_eq_emod_of_nonneg (by omega)]; omega
  have z3 : ((n : Int)).fdiv (2 ^ min k IntKind.i64.bits) = (q : Int) := by
    rw [show min k IntKind.i64.bits = k from Nat.min_eq_left (by simp [IntKind.bits]; omega), show (2 : Int) ^ k = ((2 ^ k : Nat) : Int) by simp, Int.fdiv_eq_ediv_of_nonneg _ (Int.natCast_nonneg _), hq]
    rfl
  have z4 : IntKind.i64.wrap ((q % 2 ^ IntKind.i64.bits &&& 1 % 2 ^ IntKind.i64.bits : Nat) : Int) = (c : Int) := by
    rw [show 2 ^ IntKind.i64.bits = 18446744073709551616 from rfl, Nat.mod_eq_of_lt (by omega), show 1 % 18446744073709551616 = 2 ^ 1 - 1 from rfl, Nat.and_two_pow_sub_one_eq_mod, wrap64 _ (by omega) (by omega), hc]
  have z5 : IntKind.u8.wrap (c : Int) = (c : Int) := wrap8 (by omega)
  have z6 : IntKind.u8.wrap ((c : Int) * 2 ^ min j IntKind.u8.bits) = ((c * 2 ^ j : Nat) : Int) := by
    rw [show min j IntKind.u8.bits = j from Nat.min_eq_left (by simp [IntKind.bits]; omega), show (2 : Int) ^ j = ((2 ^ j : Nat) : Int) by simp, ← Int.natCast_mul, wrap8 hcj]
  have d0 : ¬ (j : Int) < 0 := by omega
  have d1 : ¬ (k : Int) < 0 := by omega
  generalize c * 2 ^ j = cj at *
  have z7 : IntKind.u8.wrap ((bs[p] % 2 ^ IntKind.u8.bits ||| cj % 2 ^ IntKind.u8.bits : Nat) : Int) = ((bs[p] ||| cj : Nat) : Int) := by
    rw [show 2 ^ IntKind.u8.bits = 256 from rfl, Nat.mod_eq_of_lt hb, Nat.mod_eq_of_lt hcj, wrap8 hob]
  generalize ph H bs m (ns ++ [.box 3 [.int .i64 n]]) = P1 at *
  generalize bs[p] ||| cj = ob at *
  generalize ph H (bs.set p ob) m (ns ++ [.box 3 [.int .i64 n]]) = P2 at *
  rw [Yt (X := X) _ b104 _ rfl rfl]; unfold b104
  (repeat (first | rw [ZB] | rw [Zc (by simp [ZN, ZE, ZG, ZH, Zy, Zj, Zw, Zm, Zo, Zd, Ze, Zn, Zz, ZA, ZI, ↓Zl, Zx, Zk, ZF, Zq, Zp, ZZ, ZD, Yk, put, lk, Od.v, Za, Zi, Zu, Yn, Yd, Ye, Yf, Yo, Yl, DV.isU, DV.cells, hget, ZO, Yc, ZP, Zv, splice, DV.one, ZQ, mat, Ya, Ym, f1, f2, f3, f4, z1, z2, z3, z4, z5, z6, z7, d0, d1, Yw, hp']; exact ⟨rfl, rfl⟩)] | rw [ZR (by simp [lk, Za, Od.v, f1, f2, f3, f4, z1, z2, z3, z4, z5, z6, z7, d0, d1, Yw, hp']; exact rfl)] | rw [Zq] | rw [Zp] | rw [ZJ] | rw [ZU] | rw [ZK] | rw [ZT] | rw [ZM] | rw [ZL] | rw [ZC] | rw [Zs] | rw [Zt] | rw [Zh (by decide)] | rw [Zr] | rw [Zf] | rw [Zg] | rw [Zb (by decide)] | rw [ZX] | rw [ZV (by simp [ZN, ZE, ZG, ZH, Zy, Zj, Zw, Zm, Zo, Zd, Ze, Zn, Zz, ZA, ZI, ↓Zl, Zx, Zk, ZF, Zq, Zp, ZZ, ZD, Yk, put, lk, Od.v, Za, Zi, Zu, Yn, Yd, Ye, Yf, Yo, Yl, DV.isU, DV.cells, hget, ZO, Yc, ZP, Zv, splice, DV.one, ZQ, mat, Ya, Ym, f1, f2, f3, f4, z1, z2, z3, z4, z5, z6, z7, d0, d1, Yw, hp']; exact ⟨rfl, rfl⟩)] | rw [ZW (by simp [lk, Za, Od.v, f1, f2, f3, f4, z1, z2, z3, z4, z5, z6, z7, d0, d1, Yw, hp']; exact rfl)] | rw [ZS]))
  rw [Yg]
  simp only [Yq, Option.map_some, f5]
end Go.Proofs.YtebjndbigoddnaaDoor
namespace Go.Proofs.YtebjndbigoddnaaDoor
attribute [local go_sem] ZN ZE ZG ZH Zy Zj Zw Zm Zo Zd Ze Zn Zz ZA ZI Zx Zk ZF Zq Zp ZZ ZD Yk put lk Od.v Za Zi Zu Yn Yd Ye Yf Yo Yl DV.isU DV.cells hget ZO Yc ZP Zv splice ZQ mat Ya Ym one_bool one_int one_str one_nilp one_ref one_elem one_nils one_list one_row one_nilm one_map one_nilf one_func one_nili one_ifc one_agg one_tup one_undef one_fresh
attribute [local go_sem ↓] Zl
set_option linter.unusedVariables false
set_option linter.unusedSimpArgs false
set_option maxRecDepth 10000
theorem pkL_take (w : Nat) (l : List Nat) (i : Nat) (bs : List Nat) (h : i < l.length) : pkL w (l.take (i + 1)) 0 bs = pkE w i l[i] w (pkL w (l.take i) 0 bs) := by
  rw [← List.take_append_getElem h, pkL_snoc]
  congr 1
  simp; omega
theorem ph_app (H : ZY) (bs : List Nat) (m : Nat) (ns l : ZY) : ph H bs m ns ++ l = ph H bs m (ns ++ l) := by simp [ph]
theorem loop61 {H : ZY} {L : DV} {l : List Nat} {w m : Nat} (hL : ∀ G, vw (H ++ G) 1 L = some (l.map iD)) (hw : w ≤ 62) (hb : l.length ≤ 4096) (hl : ∀ n ∈ l, n < 256 ∧ wN n ≤ w) (hm : (l.length * w + 7) / 8 = m) {B0 : List Nat} (hB : B0.length = m) (bB : BB B0) :
    ∀ (k i : Nat) (ns : ZY), l.length - i ≤ k → i ≤ l.length → ∃ y ex ns', C X (.loop lp61_0) [(1, .int .i64 w), (6, .ref (H.length + 1) 0), (22, L), (23, .int .i64 l.length), (24, .int .i64 i)] (ph H (pkL w (l.take i) 0 B0) m ns) =
      some (.exit 1, (1, .int .i64 w) :: (6, .ref (H.length + 1) 0) :: (22, L) :: (23, .int .i64 l.length) :: (24, y) :: ex, ph H (pkL w l 0 B0) m ns') := by
  intro k
  induction k with
  | zero =>
    intro i ns hk hi
    obtain rfl : i = l.length := by omega
    rw [List.take_length]
    refine ⟨.int .i64 l.length, [(25, .bool false)], ns, ?_⟩
    generalize ph H (pkL w l 0 B0) m ns = P
    rw [Yh]
    unfold lp61_0
    (repeat (first | rw [ZB] | rw [Zc (by simp [go_sem]; exact ⟨rfl, rfl⟩)] | rw [ZR (by simp [lk, Za, Od.v]; exact rfl)] | rw [Zq] | rw [Zp] | rw [ZJ] | rw [ZU] | rw [ZK] | rw [ZT] | rw [ZM] | rw [ZL] | rw [ZC] | rw [Zs] | rw [Zt] | rw [Zh (by decide)] | rw [Zr] | rw [Zf] | rw [Zg] | rw [Zb (by decide)] | rw [ZX] | rw [ZV (by simp [go_sem]; exact ⟨rfl, rfl⟩)] | rw [ZW (by simp [lk, Za, Od.v]; exact rfl)] | rw [ZS]))
    rw [Yp]
    simp [Za, lk]
  | succ k ih =>
    intro i ns hk hi
    by_cases c : i < l.length
    · obtain ⟨I, hI⟩ : ∃ I, I = i + 1 := ⟨_, rfl⟩
      have z1 : IntKind.i64.wrap ((i : Int) + 1) = (I : Int) := (by rw [wrap64 _ (by omega) (by omega)]; omega)
      obtain ⟨hn, hwn⟩ := hl _ (List.getElem_mem c)
      have ht := pkL_take w l i B0 c
      have hbl : (pkL w (l.take i) 0 B0).length = m := by rw [pkL_len, hB]
      have hbb := pkL_BB w (l.take i) 0 bB
      have hln : l[i]? = some l[i] := List.getElem?_eq_getElem c
      have hpl : i * w + w ≤ l.length * w := by rw [← Nat.succ_mul]; exact Nat.mul_le_mul_right w c
      have hlw : l.length * w ≤ 4096 * 62 := Nat.mul_le_mul hb hw
      rw [hI.symm] at ht
      have hIH := ih I (ns ++ [.box 3 [.int .i64 l[i]]]) (by omega) (by omega)
      rw [ht] at hIH
      generalize pkL w (l.take i) 0 B0 = bs at *
      obtain ⟨n, hnn⟩ : ∃ n, n = l[i] := ⟨_, rfl⟩
      rw [← hnn] at hn hwn hIH hln
      have e103 := run103 (f := 104) (w := w) (i := i) (cap := [.ref (H.length + 1) 0, .ref (H.length + 2 + ns.length) 0]) (S := fun k => ph H (pkE w i n k bs) m (ns ++ [.box 3 [.int .i64 n]])) hw (by omega)
        (fun k hk => run104 (by rw [pkE_len]; exact hbl) (pkE_BB w i n k hbb) (by omega) (by omega) (by omega) hn) (by rw [ph_len, ph_len])
      simp only [pkE] at e103
      have e102 := run102 n hn
      have hv : ∀ G, vw (ph H bs m ns ++ G) 1 L = some (l.map iD) := fun G => by rw [ph, List.append_assoc]; exact hL _
      have hv0 : vw (ph H bs m ns) 1 L = some (l.map iD) := by have := hv []; rwa [List.append_nil] at this
      have hq : (ph H bs m ns).length = H.length + 2 + ns.length := ph_len
      have ha : ∀ x, ph H bs m ns ++ [x] = ph H bs m (ns ++ [x]) := fun x => ph_app _ _ _ _ _
      have hg := @ph_n H ns bs m (.int .i64 n)
      have hs : ∀ x y, (ph H bs m (ns ++ [x])).set (H.length + 2 + ns.length) y = ph H bs m (ns ++ [y]) := fun x y => by
        rw [← ha, ← ha, ← hq, ZP]; rfl
      have hg0 : ∀ x, (ph H bs m (ns ++ [x]))[H.length + 2 + ns.length]? = some x := fun x => by
        rw [← ha, ← hq, ZO]; rfl
      have hnn' := hnn.symm
      have d0 : ¬ (n : Int) < 0 := by omega
      have d1 : ¬ (w : Int) < (wN n : Int) := by omega
      have d2 : ¬ w < wN n := by omega
      have hc : C X lp61_0 [(1, .int .i64 w), (6, .ref (H.length + 1) 0), (22, L), (23, .int .i64 l.length), (24, .int .i64 i)] (ph H bs m ns) = some (.norm, [(1, .int .i64 w), (6, .ref (H.length + 1) 0), (22, L), (23, .int .i64 l.length), (24, .int .i64 I)], ph H (pkE w i n w bs) m (ns ++ [.box 3 [.int .i64 n]])) := by
        clear ih hIH hL hl hm hB bB ht
        generalize wN n = wn at *
        generalize ph H (pkE w i n w bs) m (ns ++ [.box 3 [.int .i64 n]]) = P2 at *
        generalize H.length + 2 + ns.length = qq at *
        unfold lp61_0
        (repeat (first | rw [ZB] | rw [Zc (by simp [go_sem, c, z1, hv0, hv, hq, ha, hs, hg0, e102, e103, d0, d1, d2, hln, hnn', Yw]; exact ⟨rfl, rfl⟩)] | rw [ZR (by simp [lk, Za, Od.v, c, z1, hv0, hv, hq, ha, hs, hg0, e102, e103, d0, d1, d2, hln, hnn', Yw]; exact rfl)] | rw [Zq] | rw [Zp] | rw [ZJ] | rw [ZU] | rw [ZK] | rw [ZT] | rw [ZM] | rw [ZL] | rw [ZC] | rw [Zs] | rw [Zt] | rw [Zh (by decide)] | rw [Zr] | rw [Zf] | rw [Zg] | rw [Zb (by decide)] | rw [ZX] | rw [ZV (by simp [go_sem, c, z1, hv0, hv, hq, ha, hs, hg0, e102, e103, d0, d1, d2, hln, hnn', Yw]; exact ⟨rfl, rfl⟩)] | rw [ZW (by simp [lk, Za, Od.v, c, z1, hv0, hv, hq, ha, hs, hg0, e102, e103, d0, d1, d2, hln, hnn', Yw]; exact rfl)] | rw [ZS]))
        simp [Za, lk]
      rw [Yh, hc, Ys]
      exact hIH
    · exact ih i ns (by omega) hi
theorem run61 {H : ZY} {L : DV} {l : List Nat} {w : Nat} (hL : ∀ G, vw (H ++ G) 1 L = some (l.map iD)) (hw : w ≤ 62) (hb : l.length ≤ 4096) (hl : ∀ n ∈ l, n < 256 ∧ wN n ≤ w) :
    E X 61 [L, .int .i64 w] H = some (.tup [.list 1 ((pack l w).map bD) false, .int .i64 0], H) := by
  have e100 := run100 w hw H
  have e101 := run101 l.length w (by omega) hw H
  have hv : vw H 1 L = some (l.map iD) := by have := hL []; rwa [List.append_nil] at this
  obtain ⟨y, ex, ns, hc⟩ := loop61 hL hw hb hl rfl (B0 := List.replicate ((l.length * w + 7) / 8) 0) (by simp) (fun x hx => by rw [List.eq_of_mem_replicate hx]; decide) l.length 0 [] (by omega) (by omega)
  have hP : ph H (pkL w (l.take 0) 0 (List.replicate ((l.length * w + 7) / 8) 0)) ((l.length * w + 7) / 8) [] = H ++ [.row 5 1 0 (List.replicate ((l.length * w + 7) / 8) (.int .u8 0)), .box 51 [.row H.length 0 0 ((l.length * w + 7) / 8) false]] := by
    simp [ph, pkL]
  rw [hP, show ((0 : Nat) : Int) = 0 from rfl] at hc
  have hpl := pack_len l w
  have hpd : pkL w l 0 (List.replicate ((l.length * w + 7) / 8) 0) = pack l w := rfl
  rw [hpd] at hc
  generalize pack l w = pk at *
  have hlw : l.length * w ≤ 4096 * 62 := Nat.mul_le_mul hb hw
  have hm1 : (l.length * w + 7) / 8 ≤ 100000 := by omega
  generalize (l.length * w + 7) / 8 = m at *
  have m1 : (m : Int) ≤ 140737488355328 := by omega
  have m0 : (0 : Int) ≤ (m : Int) := by omega
  have d0 : ¬ (4096 : Int) < (l.length : Int) := by omega
  have d0' : ¬ 4096 < l.length := by omega
  have hW : Wc 1 (.int .u8 0) := by simp [Wc, DV.cells, DV.one]
  rw [Yt (X := X) _ b61 _ rfl rfl]; unfold b61
  (repeat (first | rw [ZB] | rw [Zc (by simp [go_sem, e100, e101, hv, hL, m0, m1, d0, d0', hW]; exact ⟨rfl, rfl⟩)] | rw [ZR (by simp [lk, Za, Od.v, e100, e101, hv, hL, m0, m1, d0, d0', hW]; exact rfl)] | rw [Zq] | rw [Zp] | rw [ZJ] | rw [ZU] | rw [ZK] | rw [ZT] | rw [ZM] | rw [ZL] | rw [ZC] | rw [Zs] | rw [Zt] | rw [Zh (by decide)] | rw [Zr] | rw [Zf] | rw [Zg] | rw [Zb (by decide)] | rw [ZX] | rw [ZV (by simp [go_sem, e100, e101, hv, hL, m0, m1, d0, d0', hW]; exact ⟨rfl, rfl⟩)] | rw [ZW (by simp [lk, Za, Od.v, e100, e101, hv, hL, m0, m1, d0, d0', hW]; exact rfl)] | rw [ZS]))
  (try simp only [Za, List.map_cons, List.map_nil, lk, reduceIte, Nat.reduceEqDiff, Nat.zero_ne_one, Nat.one_ne_zero])
  rw [hc]
  have f1 := @ph_box H ns pk m
  have f2 := @ph_row H ns pk m
  have f3 : (ph H pk m ns).take H.length = H := by simp [ph]
  have f4 : ∀ x ∈ pk.map bD, Nr x := fun x hx => by
    obtain ⟨n, _, rfl⟩ := List.mem_map.1 hx
    exact .int _ _
  have f5 : 0 + m ≤ (pk.map bD).length := by simp; omega
  have f6 : (pk.map bD).take m = pk.map bD := List.take_of_length_le (by simp; omega)
  (repeat (first | rw [ZB] | rw [Zc (by simp [go_sem, f1]; exact ⟨rfl, rfl⟩)] | rw [ZR (by simp [lk, Za, Od.v, f1]; exact rfl)] | rw [Zq] | rw [Zp] | rw [ZJ] | rw [ZU] | rw [ZK] | rw [ZT] | rw [ZM] | rw [ZL] | rw [ZC] | rw [Zs] | rw [Zt] | rw [Zh (by decide)] | rw [Zr] | rw [Zf] | rw [Zg] | rw [Zb (by decide)] | rw [ZX] | rw [ZV (by simp [go_sem, f1]; exact ⟨rfl, rfl⟩)] | rw [ZW (by simp [lk, Za, Od.v, f1]; exact rfl)] | rw [ZS]))
  simp [Yb, Yg, Yq, go_sem, fin, fz0, fz1, fzT, fzL, nlt, f1, f2, f3, hpl]
  rw [if_pos ⟨rfl, f5, f4⟩]
  simp only [f6]
theorem wN_zero : wN 0 = 0 := rfl
theorem wN_half (n : Nat) (h : 0 < n) : wN n = wN (n / 2) + 1 := by
  unfold wN Go.Sort.bitsLen
  rw [if_neg (by omega), Nat.log2_def]
  by_cases c : 2 ≤ n
  · rw [if_pos c, if_neg (by omega)]
  · rw [if_neg c, if_pos (by omega)]
theorem loop106 (h : ZY) : ∀ (n a : Nat), n + a ≤ 1000000 → ∃ y ex, C X (.loop lp106_0) [(3, .int .i64 a), (4, .int .i64 n)] h = some (.exit 0, (3, .int .i64 (a + wN n : Nat)) :: (4, y) :: ex, h) := by
  intro n
  induction n using Nat.strongRecOn with
  | _ n ih =>
    intro a hb
    rcases Nat.eq_zero_or_pos n with rfl | hp
    · refine ⟨.int .i64 0, [(7, .bool false)], ?_⟩
      rw [wN_zero, Nat.add_zero]
      rw [Yh]
      unfold lp106_0
      (repeat (first | rw [ZB] | rw [Zc (by simp [go_sem]; exact ⟨rfl, rfl⟩)] | rw [ZR (by simp [lk, Za, Od.v]; exact rfl)] | rw [Zq] | rw [Zp] | rw [ZJ] | rw [ZU] | rw [ZK] | rw [ZT] | rw [ZM] | rw [ZL] | rw [ZC] | rw [Zs] | rw [Zt] | rw [Zh (by decide)] | rw [Zr] | rw [Zf] | rw [Zg] | rw [Zb (by decide)] | rw [ZX] | rw [ZV (by simp [go_sem]; exact ⟨rfl, rfl⟩)] | rw [ZW (by simp [lk, Za, Od.v]; exact rfl)] | rw [ZS]))
      rw [Yp]
      simp [Za, lk]
    · obtain ⟨I, hI⟩ : ∃ I, I = a + 1 := ⟨_, rfl⟩
      have z1 : IntKind.i64.wrap ((a : Int) + 1) = (I : Int) := (by rw [wrap64 _ (by omega) (by omega)]; omega)
      obtain ⟨m, hm⟩ : ∃ m, m = n / 2 := ⟨_, rfl⟩
      have z2 : IntKind.i64.wrap ((n : Int) / 2) = (m : Int) := (by rw [wrap64 _ (by omega) (by omega)]; omega)
      have p1 : (0 : Int) < (n : Int) := by omega
      obtain ⟨y, ex, hc⟩ := ih m (by omega) I (by omega)
      refine ⟨y, ex, ?_⟩
      have hs : C X lp106_0 [(3, .int .i64 a), (4, .int .i64 n)] h = some (.norm, [(3, .int .i64 I), (4, .int .i64 m)], h) := by
        clear ih hc
        unfold lp106_0
        (repeat (first | rw [ZB] | rw [Zc (by simp [go_sem, p1, hp, z1, z2]; exact ⟨rfl, rfl⟩)] | rw [ZR (by simp [lk, Za, Od.v, p1, hp, z1, z2]; exact rfl)] | rw [Zq] | rw [Zp] | rw [ZJ] | rw [ZU] | rw [ZK] | rw [ZT] | rw [ZM] | rw [ZL] | rw [ZC] | rw [Zs] | rw [Zt] | rw [Zh (by decide)] | rw [Zr] | rw [Zf] | rw [Zg] | rw [Zb (by decide)] | rw [ZX] | rw [ZV (by simp [go_sem, p1, hp, z1, z2]; exact ⟨rfl, rfl⟩)] | rw [ZW (by simp [lk, Za, Od.v, p1, hp, z1, z2]; exact rfl)] | rw [ZS]))
        simp [Za, lk]
      rw [Yh, hs, Ys, hc, wN_half n hp, ← hm, hI]
      have : a + 1 + wN m = a + (wN m + 1) := by omega
      rw [this]
theorem run106 (n : Nat) (hn : n ≤ 100000) (h : ZY) : E X 106 [.int .i64 n] h = some (.int .i64 (wN n : Nat), h) := by
  obtain ⟨y, ex, hc⟩ := loop106 h n 0 (by omega)
  rw [Nat.zero_add, show ((0 : Nat) : Int) = 0 from rfl] at hc
  generalize wN n = w at *
  rw [Yt (X := X) _ b106 _ rfl rfl]; unfold b106
  (repeat (first | rw [ZB] | rw [Zc (by simp [go_sem]; exact ⟨rfl, rfl⟩)] | rw [ZR (by simp [lk, Za, Od.v]; exact rfl)] | rw [Zq] | rw [Zp] | rw [ZJ] | rw [ZU] | rw [ZK] | rw [ZT] | rw [ZM] | rw [ZL] | rw [ZC] | rw [Zs] | rw [Zt] | rw [Zh (by decide)] | rw [Zr] | rw [Zf] | rw [Zg] | rw [Zb (by decide)] | rw [ZX] | rw [ZV (by simp [go_sem]; exact ⟨rfl, rfl⟩)] | rw [ZW (by simp [lk, Za, Od.v]; exact rfl)] | rw [ZS]))
  (try simp only [Za, List.map_cons, List.map_nil, lk, reduceIte, Nat.reduceEqDiff, Nat.zero_ne_one, Nat.one_ne_zero])
  rw [hc]
  (repeat (first | rw [ZB] | rw [Zc (by simp [go_sem]; exact ⟨rfl, rfl⟩)] | rw [ZR (by simp [lk, Za, Od.v]; exact rfl)] | rw [Zq] | rw [Zp] | rw [ZJ] | rw [ZU] | rw [ZK] | rw [ZT] | rw [ZM] | rw [ZL] | rw [ZC] | rw [Zs] | rw [Zt] | rw [Zh (by decide)] | rw [Zr] | rw [Zf] | rw [Zg] | rw [Zb (by decide)] | rw [ZX] | rw [ZV (by simp [go_sem]; exact ⟨rfl, rfl⟩)] | rw [ZW (by simp [lk, Za, Od.v]; exact rfl)] | rw [ZS]))
  simp [Yb, Yg, Yq, go_sem, fin, fz0, fz1, fzT, fzL, nlt]
theorem run106m (h : ZY) : E X 106 [.int .i64 (-1)] h = some (.int .i64 0, h) := by
  have hc : C X (.loop lp106_0) [(3, .int .i64 0), (4, .int .i64 (-1))] h = some (.exit 0, [(3, .int .i64 0), (4, .int .i64 (-1)), (7, .bool false)], h) := by
    rw [Yh]
    unfold lp106_0
    (repeat (first | rw [ZB] | rw [Zc (by simp [go_sem]; exact ⟨rfl, rfl⟩)] | rw [ZR (by simp [lk, Za, Od.v]; exact rfl)] | rw [Zq] | rw [Zp] | rw [ZJ] | rw [ZU] | rw [ZK] | rw [ZT] | rw [ZM] | rw [ZL] | rw [ZC] | rw [Zs] | rw [Zt] | rw [Zh (by decide)] | rw [Zr] | rw [Zf] | rw [Zg] | rw [Zb (by decide)] | rw [ZX] | rw [ZV (by simp [go_sem]; exact ⟨rfl, rfl⟩)] | rw [ZW (by simp [lk, Za, Od.v]; exact rfl)] | rw [ZS]))
    rw [Yp]
    simp [Za, lk]
  rw [Yt (X := X) _ b106 _ rfl rfl]; unfold b106
  (repeat (first | rw [ZB] | rw [Zc (by simp [go_sem]; exact ⟨rfl, rfl⟩)] | rw [ZR (by simp [lk, Za, Od.v]; exact rfl)] | rw [Zq] | rw [Zp] | rw [ZJ] | rw [ZU] | rw [ZK] | rw [ZT] | rw [ZM] | rw [ZL] | rw [ZC] | rw [Zs] | rw [Zt] | rw [Zh (by decide)] | rw [Zr] | rw [Zf] | rw [Zg] | rw [Zb (by decide)] | rw [ZX] | rw [ZV (by simp [go_sem]; exact ⟨rfl, rfl⟩)] | rw [ZW (by simp [lk, Za, Od.v]; exact rfl)] | rw [ZS]))
  (try simp only [Za, List.map_cons, List.map_nil, lk, reduceIte, Nat.reduceEqDiff, Nat.zero_ne_one, Nat.one_ne_zero])
  rw [hc]
  (repeat (first | rw [ZB] | rw [Zc (by simp [go_sem]; exact ⟨rfl, rfl⟩)] | rw [ZR (by simp [lk, Za, Od.v]; exact rfl)] | rw [Zq] | rw [Zp] | rw [ZJ] | rw [ZU] | rw [ZK] | rw [ZT] | rw [ZM] | rw [ZL] | rw [ZC] | rw [Zs] | rw [Zt] | rw [Zh (by decide)] | rw [Zr] | rw [Zf] | rw [Zg] | rw [Zb (by decide)] | rw [ZX] | rw [ZV (by simp [go_sem]; exact ⟨rfl, rfl⟩)] | rw [ZW (by simp [lk, Za, Od.v]; exact rfl)] | rw [ZS]))
  simp [Yb, Yg, Yq, go_sem, fin, fz0, fz1, fzT, fzL, nlt]
theorem run67 (n : Nat) (hn : n ≤ 100000) (h : ZY) : E X 67 [.int .i64 n] h = some (.int .i64 (wC n : Nat), h) := by
  rcases Nat.eq_zero_or_pos n with rfl | hp
  · have e := run106m h
    have z : IntKind.i64.wrap (-1) = -1 := by rfl
    have b0 : wC 0 = 0 := rfl
    rw [b0]
    rw [Yt (X := X) _ b67 _ rfl rfl]; unfold b67; (repeat (first | rw [ZB] | rw [Zc (by simp [go_sem, e, z]; exact ⟨rfl, rfl⟩)] | rw [ZR (by simp [lk, Za, Od.v, e, z]; exact rfl)] | rw [Zq] | rw [Zp] | rw [ZJ] | rw [ZU] | rw [ZK] | rw [ZT] | rw [ZM] | rw [ZL] | rw [ZC] | rw [Zs] | rw [Zt] | rw [Zh (by decide)] | rw [Zr] | rw [Zf] | rw [Zg] | rw [Zb (by decide)] | rw [ZX] | rw [ZV (by simp [go_sem, e, z]; exact ⟨rfl, rfl⟩)] | rw [ZW (by simp [lk, Za, Od.v, e, z]; exact rfl)] | rw [ZS])); simp [Yb, Yg, Yq, go_sem, fin, fz0, fz1, fzT, fzL, nlt, e, z]
  · obtain ⟨k, hk⟩ : ∃ k, k = n - 1 := ⟨_, rfl⟩
    have e := run106 k (by omega) h
    have z : IntKind.i64.wrap ((n : Int) - 1) = (k : Int) := (by rw [wrap64 _ (by omega) (by omega)]; omega)
    have b0 : wC n = wN k := by rw [hk]; rfl
    rw [b0]
    rw [Yt (X := X) _ b67 _ rfl rfl]; unfold b67; (repeat (first | rw [ZB] | rw [Zc (by simp [go_sem, e, z]; exact ⟨rfl, rfl⟩)] | rw [ZR (by simp [lk, Za, Od.v, e, z]; exact rfl)] | rw [Zq] | rw [Zp] | rw [ZJ] | rw [ZU] | rw [ZK] | rw [ZT] | rw [ZM] | rw [ZL] | rw [ZC] | rw [Zs] | rw [Zt] | rw [Zh (by decide)] | rw [Zr] | rw [Zf] | rw [Zg] | rw [Zb (by decide)] | rw [ZX] | rw [ZV (by simp [go_sem, e, z]; exact ⟨rfl, rfl⟩)] | rw [ZW (by simp [lk, Za, Od.v, e, z]; exact rfl)] | rw [ZS])); simp [Yb, Yg, Yq, go_sem, fin, fz0, fz1, fzT, fzL, nlt, e, z]
theorem loop107 {H : ZY} (n w : Nat) (hw : w ≤ 62) (hn : n ≤ 1000000) :
    ∀ (m k : Nat) (o : DV) (h : ZY), w - k ≤ m → k ≤ w → MadeI h H o (numR n k) → ∃ x o' h' y ex, C X (.loop lp107_0) [(0, .int .i64 (n / 2 ^ k : Nat)), (1, .int .i64 w), (5, o), (6, .int .i64 k)] h = some (.exit 0, (0, x) :: (1, .int .i64 w) :: (5, o') :: (6, y) :: ex, h') ∧ MadeI h' H o' (numR n w) := by
  intro m
  induction m with
  | zero =>
    intro k o h hm hk hM
    obtain rfl : k = w := by omega
    refine ⟨.int .i64 (n / 2 ^ k : Nat), o, h, .int .i64 k, [(9, .bool false)], ?_, hM⟩
    rw [Yh]
    generalize n / 2 ^ k = q
    unfold lp107_0
    (repeat (first | rw [ZB] | rw [Zc (by simp [go_sem]; exact ⟨rfl, rfl⟩)] | rw [ZR (by simp [lk, Za, Od.v]; exact rfl)] | rw [Zq] | rw [Zp] | rw [ZJ] | rw [ZU] | rw [ZK] | rw [ZT] | rw [ZM] | rw [ZL] | rw [ZC] | rw [Zs] | rw [Zt] | rw [Zh (by decide)] | rw [Zr] | rw [Zf] | rw [Zg] | rw [Zb (by decide)] | rw [ZX] | rw [ZV (by simp [go_sem]; exact ⟨rfl, rfl⟩)] | rw [ZW (by simp [lk, Za, Od.v]; exact rfl)] | rw [ZS]))
    rw [Yp]
    simp [Za, lk]
  | succ m ih =>
    intro k o h hm hk hM
    by_cases c : k < w
    · obtain ⟨K, hK⟩ : ∃ K, K = k + 1 := ⟨_, rfl⟩
      have z1 : IntKind.i64.wrap ((k : Int) + 1) = (K : Int) := (by rw [wrap64 _ (by omega) (by omega)]; omega)
      have hnum : numR n K = numR n k ++ [n / 2 ^ k % 2] := by rw [hK]; simp [numR, List.range_succ]
      have hdiv : n / 2 ^ K = n / 2 ^ k / 2 := by rw [hK, Nat.pow_succ, Nat.div_div_eq_div_mul]
      have hqn : n / 2 ^ k ≤ n := Nat.div_le_self _ _
      obtain ⟨o2, h2, ha, hM2⟩ := hM.app (by rw [numR_len]; omega) (n / 2 ^ k % 2)
      rw [← hnum] at hM2
      have hv := hM.vw []
      rw [List.append_nil] at hv
      have hIH := ih K o2 h2 (by omega) (by omega) hM2
      rw [hdiv] at hIH
      obtain ⟨x, o', h', y, ex, hc, hM'⟩ := hIH
      refine ⟨x, o', h', y, ex, ?_, hM'⟩
      generalize n / 2 ^ k = q at *
      obtain ⟨r, hr⟩ : ∃ r, r = q % 2 := ⟨_, rfl⟩
      obtain ⟨q2, hq2⟩ : ∃ q2, q2 = q / 2 := ⟨_, rfl⟩
      rw [← hr] at ha
      rw [← hq2] at hc
      have z2 : ((q : Int)).tmod 2 = (r : Int) := by rw [Int.tmod_eq_emod_of_nonneg (by omega)]; omega
      have z3 : IntKind.i64.wrap ((q : Int) / 2) = (q2 : Int) := (by rw [wrap64 _ (by omega) (by omega)]; omega)
      have y1 : ∀ (a : Int) h, eltL [.int .i64 a] h = some ([.int .i64 a], h) := fun _ _ => rfl
      have y2 : ∀ a, Wc 1 (.int .i64 a) := fun a => by simp [Wc, DV.cells, DV.one]
      have y3 : ∀ a, Nr (.int .i64 a) := fun a => .int _ _
      have y4 : ∀ (a : Int) h, srcOf h 1 (.list 1 [.int .i64 a] true) = some [.int .i64 a] := fun _ _ => rfl
      have hs : C X lp107_0 [(0, .int .i64 q), (1, .int .i64 w), (5, o), (6, .int .i64 k)] h = some (.norm, [(0, .int .i64 q2), (1, .int .i64 w), (5, o2), (6, .int .i64 K)], h2) := by
        clear ih hc hM hM2 hM' hnum hdiv
        generalize numR n k = nk at *
        unfold lp107_0
        (repeat (first | rw [ZB] | rw [Zc (by simp [go_sem, c, z1, z2, z3, y1, y2, y3, y4, hv, ha]; exact ⟨rfl, rfl⟩)] | rw [ZR (by simp [lk, Za, Od.v, c, z1, z2, z3, y1, y2, y3, y4, hv, ha]; exact rfl)] | rw [Zq] | rw [Zp] | rw [ZJ] | rw [ZU] | rw [ZK] | rw [ZT] | rw [ZM] | rw [ZL] | rw [ZC] | rw [Zs] | rw [Zt] | rw [Zh (by decide)] | rw [Zr] | rw [Zf] | rw [Zg] | rw [Zb (by decide)] | rw [ZX] | rw [ZV (by simp [go_sem, c, z1, z2, z3, y1, y2, y3, y4, hv, ha]; exact ⟨rfl, rfl⟩)] | rw [ZW (by simp [lk, Za, Od.v, c, z1, z2, z3, y1, y2, y3, y4, hv, ha]; exact rfl)] | rw [ZS]))
        simp [Za, lk]
      rw [Yh, hs, Ys]
      exact hc
    · exact ih k o h (by omega) hk hM
theorem run107 {H : ZY} (n w : Nat) (hw : w ≤ 62) (hn : n ≤ 1000000) : ∃ d, E X 107 [.int .i64 n, .int .i64 w] H = some (d, H) ∧ LD d (numR n w) := by
  obtain ⟨x, o', h', y, ex, hc, hM⟩ := loop107 (H := H) n w hw hn w 0 .nils H (by omega) (by omega) (.inl ⟨rfl, rfl, rfl⟩)
  obtain ⟨d, hf, hD⟩ := fin_madeI hM
  refine ⟨d, ?_, hD⟩
  rw [Nat.pow_zero, Nat.div_one, show ((0 : Nat) : Int) = 0 from rfl] at hc
  rw [Yt (X := X) _ b107 _ rfl rfl]; unfold b107
  (repeat (first | rw [ZB] | rw [Zc (by simp [go_sem]; exact ⟨rfl, rfl⟩)] | rw [ZR (by simp [lk, Za, Od.v]; exact rfl)] | rw [Zq] | rw [Zp] | rw [ZJ] | rw [ZU] | rw [ZK] | rw [ZT] | rw [ZM] | rw [ZL] | rw [ZC] | rw [Zs] | rw [Zt] | rw [Zh (by decide)] | rw [Zr] | rw [Zf] | rw [Zg] | rw [Zb (by decide)] | rw [ZX] | rw [ZV (by simp [go_sem]; exact ⟨rfl, rfl⟩)] | rw [ZW (by simp [lk, Za, Od.v]; exact rfl)] | rw [ZS]))
  (try simp only [Za, List.map_cons, List.map_nil, lk, reduceIte, Nat.reduceEqDiff, Nat.zero_ne_one, Nat.one_ne_zero])
  rw [hc]
  (repeat (first | rw [ZB] | rw [Zc (by simp [go_sem]; exact ⟨rfl, rfl⟩)] | rw [ZR (by simp [lk, Za, Od.v]; exact rfl)] | rw [Zq] | rw [Zp] | rw [ZJ] | rw [ZU] | rw [ZK] | rw [ZT] | rw [ZM] | rw [ZL] | rw [ZC] | rw [Zs] | rw [Zt] | rw [Zh (by decide)] | rw [Zr] | rw [Zf] | rw [Zg] | rw [Zb (by decide)] | rw [ZX] | rw [ZV (by simp [go_sem]; exact ⟨rfl, rfl⟩)] | rw [ZW (by simp [lk, Za, Od.v]; exact rfl)] | rw [ZS]))
  simp only [Yb, Yq, lk, Za, List.map_cons, List.map_nil, reduceIte, Option.map_some, hf]
theorem valR_le {l : List Nat} (h : ∀ b ∈ l, b ≤ 1) {k : Nat} (hl : l.length ≤ k) : valR l < 2 ^ k := Nat.lt_of_lt_of_le (valR_lt l h) (Nat.pow_le_pow_right (by omega) hl)
theorem loop108 {h : ZY} {L : DV} {l : List Nat} (hL : vw h 1 L = some (l.map iD)) (hl : ∀ b ∈ l, b ≤ 1) (hb : l.length ≤ 61) :
    ∀ (j : Nat), j ≤ l.length → ∃ y ex, C X (.loop lp108_0) [(0, L), (3, .int .i64 (valR (l.drop j) : Nat)), (4, .int .i64 ((j : Int) - 1))] h = some (.exit 0, (0, L) :: (3, .int .i64 (valR l : Nat)) :: (4, y) :: ex, h) := by
  intro j
  induction j with
  | zero =>
    intro _
    refine ⟨.int .i64 (-1), [(9, .bool false)], ?_⟩
    rw [List.drop_zero, show ((0 : Nat) : Int) - 1 = -1 from rfl]
    rw [Yh]
    generalize valR l = v
    unfold lp108_0
    (repeat (first | rw [ZB] | rw [Zc (by simp [go_sem]; exact ⟨rfl, rfl⟩)] | rw [ZR (by simp [lk, Za, Od.v]; exact rfl)] | rw [Zq] | rw [Zp] | rw [ZJ] | rw [ZU] | rw [ZK] | rw [ZT] | rw [ZM] | rw [ZL] | rw [ZC] | rw [Zs] | rw [Zt] | rw [Zh (by decide)] | rw [Zr] | rw [Zf] | rw [Zg] | rw [Zb (by decide)] | rw [ZX] | rw [ZV (by simp [go_sem]; exact ⟨rfl, rfl⟩)] | rw [ZW (by simp [lk, Za, Od.v]; exact rfl)] | rw [ZS]))
    rw [Yp]
    simp [Za, lk]
  | succ j ih =>
    intro hj
    have c : j < l.length := by omega
    have hd : l.drop j = l[j] :: l.drop (j + 1) := by rw [List.drop_eq_getElem_cons c]
    have hv : valR (l.drop j) = 2 * valR (l.drop (j + 1)) + l[j] := by rw [hd, valR]
    have h1 : valR (l.drop j) < 2 ^ 61 := valR_le (fun b hb => hl b (List.mem_of_mem_drop hb)) (by rw [List.length_drop]; omega)
    have hle := hl _ (List.getElem_mem c)
    obtain ⟨y, ex, hc⟩ := ih (by omega)
    refine ⟨y, ex, ?_⟩
    rw [hv] at hc h1
    generalize valR (l.drop (j + 1)) = v at *
    obtain ⟨x, hx⟩ : ∃ x, x = l[j] := ⟨_, rfl⟩
    rw [← hx] at hc hv h1 hle
    have hx' := hx.symm
    obtain ⟨u, hu⟩ : ∃ u, u = 2 * v := ⟨_, rfl⟩
    rw [← hu] at hc h1
    obtain ⟨t, ht⟩ : ∃ t, t = u + x := ⟨_, rfl⟩
    rw [← ht] at hc h1
    have z1 : IntKind.i64.wrap (2 * (v : Int)) = (u : Int) := (by rw [wrap64 _ (by omega) (by omega)]; omega)
    have z2 : IntKind.i64.wrap ((u : Int) + (x : Int)) = (t : Int) := (by rw [wrap64 _ (by omega) (by omega)]; omega)
    obtain ⟨J, hJ⟩ : ∃ J : Int, J = (j : Int) - 1 := ⟨_, rfl⟩
    have z3 : IntKind.i64.wrap ((j : Int) - 1) = J := (by rw [wrap64 _ (by omega) (by omega)]; omega)
    have e1 : ((j + 1 : Nat) : Int) - 1 = (j : Int) := by omega
    rw [e1]
    rw [← hJ] at hc
    have hs : C X lp108_0 [(0, L), (3, .int .i64 v), (4, .int .i64 j)] h = some (.norm, [(0, L), (3, .int .i64 t), (4, .int .i64 J)], h) := by
      clear ih hc hv hd hl
      unfold lp108_0
      (repeat (first | rw [ZB] | rw [Zc (by simp [go_sem, c, z1, z2, z3, hL, hx', Yw]; exact ⟨rfl, rfl⟩)] | rw [ZR (by simp [lk, Za, Od.v, c, z1, z2, z3, hL, hx', Yw]; exact rfl)] | rw [Zq] | rw [Zp] | rw [ZJ] | rw [ZU] | rw [ZK] | rw [ZT] | rw [ZM] | rw [ZL] | rw [ZC] | rw [Zs] | rw [Zt] | rw [Zh (by decide)] | rw [Zr] | rw [Zf] | rw [Zg] | rw [Zb (by decide)] | rw [ZX] | rw [ZV (by simp [go_sem, c, z1, z2, z3, hL, hx', Yw]; exact ⟨rfl, rfl⟩)] | rw [ZW (by simp [lk, Za, Od.v, c, z1, z2, z3, hL, hx', Yw]; exact rfl)] | rw [ZS]))
      simp [Za, lk]
    rw [Yh, hs, Ys]
    exact hc
theorem run108 {h : ZY} {L : DV} {l : List Nat} (hL : vw h 1 L = some (l.map iD)) (hl : ∀ b ∈ l, b ≤ 1) (hb : l.length ≤ 61) : E X 108 [L] h = some (.int .i64 (valR l : Nat), h) := by
  obtain ⟨y, ex, hc⟩ := loop108 hL hl hb l.length (Nat.le_refl _)
  rw [List.drop_length, show ((valR [] : Nat) : Int) = 0 from rfl] at hc
  obtain ⟨J, hJ⟩ : ∃ J : Int, J = (l.length : Int) - 1 := ⟨_, rfl⟩
  have z3 : IntKind.i64.wrap ((l.length : Int) - 1) = J := (by rw [wrap64 _ (by omega) (by omega)]; omega)
  rw [← hJ] at hc
  generalize valR l = v at *
  rw [Yt (X := X) _ b108 _ rfl rfl]; unfold b108
  (repeat (first | rw [ZB] | rw [Zc (by simp [go_sem, hL, z3]; exact ⟨rfl, rfl⟩)] | rw [ZR (by simp [lk, Za, Od.v, hL, z3]; exact rfl)] | rw [Zq] | rw [Zp] | rw [ZJ] | rw [ZU] | rw [ZK] | rw [ZT] | rw [ZM] | rw [ZL] | rw [ZC] | rw [Zs] | rw [Zt] | rw [Zh (by decide)] | rw [Zr] | rw [Zf] | rw [Zg] | rw [Zb (by decide)] | rw [ZX] | rw [ZV (by simp [go_sem, hL, z3]; exact ⟨rfl, rfl⟩)] | rw [ZW (by simp [lk, Za, Od.v, hL, z3]; exact rfl)] | rw [ZS]))
  (try simp only [Za, List.map_cons, List.map_nil, lk, reduceIte, Nat.reduceEqDiff, Nat.zero_ne_one, Nat.one_ne_zero])
  rw [hc]
  (repeat (first | rw [ZB] | rw [Zc (by simp [go_sem]; exact ⟨rfl, rfl⟩)] | rw [ZR (by simp [lk, Za, Od.v]; exact rfl)] | rw [Zq] | rw [Zp] | rw [ZJ] | rw [ZU] | rw [ZK] | rw [ZT] | rw [ZM] | rw [ZL] | rw [ZC] | rw [Zs] | rw [Zt] | rw [Zh (by decide)] | rw [Zr] | rw [Zf] | rw [Zg] | rw [Zb (by decide)] | rw [ZX] | rw [ZV (by simp [go_sem]; exact ⟨rfl, rfl⟩)] | rw [ZW (by simp [lk, Za, Od.v]; exact rfl)] | rw [ZS]))
  simp [Yb, Yg, Yq, go_sem, fin, fz0, fz1, fzT, fzL, nlt]
/-- A list that grows, behind H. -/
def Grow (T : Nat) (f : Nat → DV) (H h : ZY) (d : DV) (ws : List Nat) : Prop :=
  h.take H.length = H ∧ ((d = .nils ∧ ws = []) ∨ ∃ g o, d = .row o g 0 ws.length false ∧ H.length ≤ o ∧ h[o]? = some (.row T 1 g (ws.map f)))
section
variable {T : Nat} {f : Nat → DV} {H h : ZY} {d : DV} {ws : List Nat}
theorem Grow.zero : Grow T f H H .nils [] := ⟨List.take_length, .inl ⟨rfl, rfl⟩⟩
theorem take_le {H h : ZY} (ht : h.take H.length = H) : H.length ≤ h.length := by
  have := congrArg List.length ht
  rw [List.length_take] at this; omega
theorem Grow.ext (hg : Grow T f H h d ws) (G : ZY) : Grow T f H (h ++ G) d ws := by
  obtain ⟨ht, hr⟩ := hg
  refine ⟨?_, ?_⟩
  · rw [List.take_append_of_le_length (take_le ht)]; exact ht
  · rcases hr with hr | ⟨g, o, h1, h2, h3⟩
    · exact .inl hr
    · exact .inr ⟨g, o, h1, h2, by rw [List.getElem?_append_left (List.getElem?_eq_some_iff.1 h3).1]; exact h3⟩
theorem Grow.keep (hg : Grow T f H h d ws) {h' : ZY} (ht : h'.take h.length = h) : Grow T f H h' d ws := by
  have e : h' = h ++ h'.drop h.length := by
    have := List.take_append_drop h.length h'
    rw [ht] at this; exact this.symm
  rw [e]; exact hg.ext _
theorem Grow.vw (hg : Grow T f H h d ws) (G : ZY) : vw (h ++ G) 1 d = some (ws.map f) := by
  rcases (hg.ext G).2 with ⟨rfl, rfl⟩ | ⟨g, o, rfl, h2, h3⟩
  · rfl
  · simp [Go.Proofs.YtebjndbigoddnaaDoor.vw, h3, List.take_of_length_le]
theorem Grow.vw0 (hg : Grow T f H h d ws) : Go.Proofs.YtebjndbigoddnaaDoor.vw h 1 d = some (ws.map f) := by
  have := hg.vw []; rwa [List.append_nil] at this
theorem Grow.app (hg : Grow T f H h d ws) (b : Nat) (ys : List Nat) (hb : (ws.length + ys.length) * b ≤ 140737488355328) : ∃ d' h', appx h T 1 b d (ws.map f) (ys.map f) = some (d', h') ∧ Grow T f H h' d' (ws ++ ys) := by
  by_cases hy : ys = []
  · subst hy
    exact ⟨d, h, by simp [appx], by rw [List.append_nil]; exact hg⟩
  · have hy' : ys.map f ≠ [] := by simpa using hy
    have hle : ((ws.map f).length + (ys.map f).length) * b ≤ 140737488355328 := by simpa using hb
    obtain ⟨ht, hr⟩ := hg
    rcases hr with ⟨rfl, rfl⟩ | ⟨g, o, rfl, h2, h3⟩
    · refine ⟨.row h.length 0 0 ys.length false, h ++ [.row T 1 0 (ys.map f)], ?_, ?_, .inr ⟨0, h.length, by simp, take_le ht, by simp⟩⟩
      · simp only [appx, if_neg hy', List.length_map]
        rw [if_pos hb]
      · rw [List.take_append_of_le_length (take_le ht)]; exact ht
    · have hlt := (List.getElem?_eq_some_iff.1 h3).1
      refine ⟨.row o (g + 1) 0 (ws.length + ys.length) false, h.set o (.row T 1 (g + 1) (ws.map f ++ ys.map f)), ?_, ?_, .inr ⟨g + 1, o, by simp, h2, ?_⟩⟩
      · simp only [appx, if_neg hy', List.length_map, h3]
        rw [if_pos hb]
        simp
      · rw [List.take_set_of_le h2]; exact ht
      · rw [List.getElem?_set_self hlt, List.map_append]
/-- What is told in a tuple. -/
theorem fin_grw (hg : Grow T f H h d ws) (hf : ∀ x, Nr (f x)) (k : Int) : ∃ R, fin H h [d, .int .i64 k] = (.tup [R, .int .i64 k], H) ∧ ((R = .nils ∧ ws = []) ∨ R = .list 1 (ws.map f) false) := by
  obtain ⟨ht, hr⟩ := hg
  rcases hr with ⟨rfl, rfl⟩ | ⟨g, o, rfl, h2, h3⟩
  · refine ⟨.nils, ?_, .inl ⟨rfl, rfl⟩⟩
    simp only [fin]
    rw [if_pos ht]
    rfl
  · refine ⟨.list 1 (ws.map f) false, ?_, .inr rfl⟩
    simp only [fin]
    rw [if_pos ht]
    have hN : ∀ x ∈ ws.map f, Nr x := fun x hx => by
      obtain ⟨n, _, rfl⟩ := List.mem_map.1 hx
      exact hf n
    simp only [fzT, fz1, fz0]
    rw [if_neg (by omega), h3]
    simp only
    rw [if_pos ⟨rfl, by simp, hN⟩]
    simp [List.take_of_length_le]
end
theorem allR_take (w : Nat) (l : List Nat) (i : Nat) (h : i < l.length) : allR (l.take (i + 1)) w = allR (l.take i) w ++ numR l[i] w := by
  unfold allR
  rw [← List.take_append_getElem h, List.flatMap_append]
  simp only [List.flatMap_cons, List.flatMap_nil, List.append_nil]
theorem loop66 {H : ZY} {L : DV} {l : List Nat} {w : Nat} (hL : ∀ h : ZY, h.take H.length = H → vw h 1 L = some (l.map iD)) (hw : w ≤ 62) (hb : l.length ≤ 4096) (hl : ∀ n ∈ l, n ≤ 100000 ∧ wN n ≤ w) :
    ∀ (k i : Nat) (o : DV) (h : ZY), l.length - i ≤ k → i ≤ l.length → Grow 3 iD H h o (allR (l.take i) w) → ∃ y o' h' ex, C X (.loop lp66_0) [(0, L), (1, .int .i64 w), (6, o), (7, .int .i64 i)] h = some (.exit 0, (0, L) :: (1, .int .i64 w) :: (6, o') :: (7, y) :: ex, h') ∧ Grow 3 iD H h' o' (allR l w) := by
  intro k
  induction k with
  | zero =>
    intro i o h hk hi hG
    obtain rfl : i = l.length := by omega
    rw [List.take_length] at hG
    have hv := hL h hG.1
    refine ⟨.int .i64 l.length, o, h, [(23, .bool false)], ?_, hG⟩
    rw [Yh]
    unfold lp66_0
    (repeat (first | rw [ZB] | rw [Zc (by simp [go_sem, hv]; exact ⟨rfl, rfl⟩)] | rw [ZR (by simp [lk, Za, Od.v, hv]; exact rfl)] | rw [Zq] | rw [Zp] | rw [ZJ] | rw [ZU] | rw [ZK] | rw [ZT] | rw [ZM] | rw [ZL] | rw [ZC] | rw [Zs] | rw [Zt] | rw [Zh (by decide)] | rw [Zr] | rw [Zf] | rw [Zg] | rw [Zb (by decide)] | rw [ZX] | rw [ZV (by simp [go_sem, hv]; exact ⟨rfl, rfl⟩)] | rw [ZW (by simp [lk, Za, Od.v, hv]; exact rfl)] | rw [ZS]))
    rw [Yp]
    simp [Za, lk]
  | succ k ih =>
    intro i o h hk hi hG
    by_cases c : i < l.length
    · obtain ⟨I, hI⟩ : ∃ I, I = i + 1 := ⟨_, rfl⟩
      have z1 : IntKind.i64.wrap ((i : Int) + 1) = (I : Int) := (by rw [wrap64 _ (by omega) (by omega)]; omega)
      obtain ⟨hn, hwn⟩ := hl _ (List.getElem_mem c)
      have hat := allR_take w l i c
      rw [← hI] at hat
      obtain ⟨n, hnn⟩ : ∃ n, n = l[i] := ⟨_, rfl⟩
      rw [← hnn] at hn hwn hat
      have hnn' := hnn.symm
      have hln : l[i]? = some n := by rw [List.getElem?_eq_getElem c, hnn]
      have hlen : (allR (l.take i) w).length ≤ 4096 * 62 := by
        rw [allR_len]
        exact Nat.mul_le_mul (by rw [List.length_take]; omega) hw
      have e106 := fun h => run106 n hn h
      have hv := hL h hG.1
      have hw0 := hG.vw0
      have d0 : ¬ (n : Int) < 0 := by omega
      have d1 : ¬ (w : Int) < (wN n : Int) := by omega
      have d2 : ¬ w < wN n := by omega
      obtain ⟨d, e107, hD⟩ := run107 (H := h) n w hw (by omega)
      rcases hD with ⟨rfl, hnil⟩ | rfl
      · have hG' : Grow 3 iD H h o (allR (l.take I) w) := by rw [hat, hnil, List.append_nil]; exact hG
        have s1 : ∀ h, srcOf h 1 .nils = some [] := fun _ => rfl
        have a1 : ∀ xs, appx h 3 1 8 o xs [] = some (o, h) := fun xs => by simp [appx]
        have hs : C X lp66_0 [(0, L), (1, .int .i64 w), (6, o), (7, .int .i64 i)] h = some (.norm, [(0, L), (1, .int .i64 w), (6, o), (7, .int .i64 I)], h) := by
          clear ih hL hl hG hG' hat hnil
          generalize wN n = wn at *
          generalize allR (l.take i) w = aw at *
          unfold lp66_0
          (repeat (first | rw [ZB] | rw [Zc (by simp [go_sem, c, z1, hv, hw0, hln, hnn', Yw, e106, e107, d0, d1, d2, s1, a1]; exact ⟨rfl, rfl⟩)] | rw [ZR (by simp [lk, Za, Od.v, c, z1, hv, hw0, hln, hnn', Yw, e106, e107, d0, d1, d2, s1, a1]; exact rfl)] | rw [Zq] | rw [Zp] | rw [ZJ] | rw [ZU] | rw [ZK] | rw [ZT] | rw [ZM] | rw [ZL] | rw [ZC] | rw [Zs] | rw [Zt] | rw [Zh (by decide)] | rw [Zr] | rw [Zf] | rw [Zg] | rw [Zb (by decide)] | rw [ZX] | rw [ZV (by simp [go_sem, c, z1, hv, hw0, hln, hnn', Yw, e106, e107, d0, d1, d2, s1, a1]; exact ⟨rfl, rfl⟩)] | rw [ZW (by simp [lk, Za, Od.v, c, z1, hv, hw0, hln, hnn', Yw, e106, e107, d0, d1, d2, s1, a1]; exact rfl)] | rw [ZS]))
          simp [Za, lk]
        rw [Yh, hs, Ys]
        exact ih I o h (by omega) (by omega) hG'
      · have hG2 := hG.ext [.row 3 1 0 ((numR n w).map iD)]
        obtain ⟨o', h', ha, hG'⟩ := hG2.app 8 (numR n w) (by rw [numR_len]; omega)
        rw [← hat] at hG'
        have hw2 := hG.vw [.row 3 1 0 ((numR n w).map iD)]
        have hv2 : vw (h ++ [.row 3 1 0 ((numR n w).map iD)]) 1 L = some (l.map iD) := hL _ hG2.1
        have s1 : srcOf (h ++ [.row 3 1 0 ((numR n w).map iD)]) 1 (.row h.length 0 0 (numR n w).length false) = some ((numR n w).map iD) := by
          simp [srcOf, vw, List.take_of_length_le]
        have hs : C X lp66_0 [(0, L), (1, .int .i64 w), (6, o), (7, .int .i64 i)] h = some (.norm, [(0, L), (1, .int .i64 w), (6, o'), (7, .int .i64 I)], h') := by
          clear ih hL hl hG hG' hat hG2
          generalize wN n = wn at *
          generalize allR (l.take i) w = aw at *
          generalize numR n w = nw at *
          unfold lp66_0
          (repeat (first | rw [ZB] | rw [Zc (by simp [go_sem, c, z1, hv, hw0, hln, hnn', Yw, e106, e107, d0, d1, d2, hv2, hw2, s1, ha]; exact ⟨rfl, rfl⟩)] | rw [ZR (by simp [lk, Za, Od.v, c, z1, hv, hw0, hln, hnn', Yw, e106, e107, d0, d1, d2, hv2, hw2, s1, ha]; exact rfl)] | rw [Zq] | rw [Zp] | rw [ZJ] | rw [ZU] | rw [ZK] | rw [ZT] | rw [ZM] | rw [ZL] | rw [ZC] | rw [Zs] | rw [Zt] | rw [Zh (by decide)] | rw [Zr] | rw [Zf] | rw [Zg] | rw [Zb (by decide)] | rw [ZX] | rw [ZV (by simp [go_sem, c, z1, hv, hw0, hln, hnn', Yw, e106, e107, d0, d1, d2, hv2, hw2, s1, ha]; exact ⟨rfl, rfl⟩)] | rw [ZW (by simp [lk, Za, Od.v, c, z1, hv, hw0, hln, hnn', Yw, e106, e107, d0, d1, d2, hv2, hw2, s1, ha]; exact rfl)] | rw [ZS]))
          simp [Za, lk]
        rw [Yh, hs, Ys]
        exact ih I o' h' (by omega) (by omega) hG'
    · exact ih i o h (by omega) hi hG
theorem loop66b {H : ZY} :
    ∀ (m : Nat) (a : List Nat) (o : DV) (h : ZY) (e : Env), lk e 6 = o → (8 - a.length % 8) % 8 = m → a.length ≤ 1000000 → Grow 3 iD H h o a → ∃ o' h' ex, C X (.loop lp66_1) e h = some (.exit 2, (6, o') :: ex, h') ∧ Grow 3 iD H h' o' (a ++ List.replicate m 0) := by
  intro m
  induction m with
  | zero =>
    intro a o h e he hm hb hG
    have h8 : ((a.length : Int)).tmod 8 = 0 := by rw [Int.tmod_eq_emod_of_nonneg (by omega)]; omega
    have hv := hG.vw0
    refine ⟨o, h, [(52, .bool false)], ?_, by simpa using hG⟩
    rw [Yh]
    unfold lp66_1
    (repeat (first | rw [ZB] | rw [Zc (by simp [go_sem, hv, h8, he]; exact ⟨rfl, rfl⟩)] | rw [ZR (by simp [lk, Za, Od.v, hv, h8, he]; exact rfl)] | rw [Zq] | rw [Zp] | rw [ZJ] | rw [ZU] | rw [ZK] | rw [ZT] | rw [ZM] | rw [ZL] | rw [ZC] | rw [Zs] | rw [Zt] | rw [Zh (by decide)] | rw [Zr] | rw [Zf] | rw [Zg] | rw [Zb (by decide)] | rw [ZX] | rw [ZV (by simp [go_sem, hv, h8, he]; exact ⟨rfl, rfl⟩)] | rw [ZW (by simp [lk, Za, Od.v, hv, h8, he]; exact rfl)] | rw [ZS]))
    rw [Yp]
    simp [Za, lk, he]
  | succ m ih =>
    intro a o h e he hm hb hG
    obtain ⟨r, hr⟩ : ∃ r, r = a.length % 8 := ⟨_, rfl⟩
    have h8 : ((a.length : Int)).tmod 8 = (r : Int) := by rw [Int.tmod_eq_emod_of_nonneg (by omega)]; omega
    have hr0 : 0 < r := by omega
    have hr1 : (0 : Int) < (r : Int) := by omega
    have hv := hG.vw0
    obtain ⟨o2, h2, ha, hG2⟩ := hG.app 8 [0] (by simp; omega)
    have ha : appx h 3 1 8 o (a.map iD) [.int .i64 0] = some (o2, h2) := ha
    obtain ⟨o', h', ex, hc, hG'⟩ := ih (a ++ [0]) o2 h2 [(6, o2)] rfl (by simp; omega) (by simp; omega) hG2
    rw [List.append_assoc] at hG'
    refine ⟨o', h', ex, ?_, hG'⟩
    have y1 : ∀ (a : Int) h, eltL [.int .i64 a] h = some ([.int .i64 a], h) := fun _ _ => rfl
    have y2 : ∀ a, Wc 1 (.int .i64 a) := fun a => by simp [Wc, DV.cells, DV.one]
    have y3 : ∀ a, Nr (.int .i64 a) := fun a => .int _ _
    have y4 : ∀ (a : Int) h, srcOf h 1 (.list 1 [.int .i64 a] true) = some [.int .i64 a] := fun _ _ => rfl
    have hs : C X lp66_1 e h = some (.norm, [(6, o2)], h2) := by
      clear ih hc hG hG' hG2 hm
      unfold lp66_1
      (repeat (first | rw [ZB] | rw [Zc (by simp [go_sem, hv, he, h8, hr0, hr1, y1, y2, y3, y4, ha]; exact ⟨rfl, rfl⟩)] | rw [ZR (by simp [lk, Za, Od.v, hv, he, h8, hr0, hr1, y1, y2, y3, y4, ha]; exact rfl)] | rw [Zq] | rw [Zp] | rw [ZJ] | rw [ZU] | rw [ZK] | rw [ZT] | rw [ZM] | rw [ZL] | rw [ZC] | rw [Zs] | rw [Zt] | rw [Zh (by decide)] | rw [Zr] | rw [Zf] | rw [Zg] | rw [Zb (by decide)] | rw [ZX] | rw [ZV (by simp [go_sem, hv, he, h8, hr0, hr1, y1, y2, y3, y4, ha]; exact ⟨rfl, rfl⟩)] | rw [ZW (by simp [lk, Za, Od.v, hv, he, h8, hr0, hr1, y1, y2, y3, y4, ha]; exact rfl)] | rw [ZS]))
      simp [Za, lk]
    rw [Yh, hs, Ys]
    exact hc
def bytesN (a : List Nat) (n : Nat) : List Nat := (List.range n).map fun p => valR ((a.drop (8 * p)).take 8)
theorem loop66c {H Ha : ZY} {A : DV} {a : List Nat} (hA : Grow 3 iD H Ha A a) {n : Nat} (h8 : a.length = 8 * n) (hb : a.length ≤ 1000000) (hl : ∀ b ∈ a, b ≤ 1) :
    ∀ (k p : Nat) (o : DV) (h : ZY), n - p ≤ k → p ≤ n → Grow 5 bD Ha h o (bytesN a p) → ∃ y o' h' ex, C X (.loop lp66_2) [(6, A), (9, o), (10, .int .i64 (8 * p : Nat))] h = some (.exit 4, (6, A) :: (9, o') :: (10, y) :: ex, h') ∧ Grow 5 bD Ha h' o' (bytesN a n) := by
  intro k
  induction k with
  | zero =>
    intro p o h hk hp hG
    obtain rfl : p = n := by omega
    have hv := (hA.keep hG.1).vw0
    rw [← h8]
    refine ⟨.int .i64 a.length, o, h, [(59, .bool false)], ?_, hG⟩
    rw [Yh]
    unfold lp66_2
    (repeat (first | rw [ZB] | rw [Zc (by simp [go_sem, hv]; exact ⟨rfl, rfl⟩)] | rw [ZR (by simp [lk, Za, Od.v, hv]; exact rfl)] | rw [Zq] | rw [Zp] | rw [ZJ] | rw [ZU] | rw [ZK] | rw [ZT] | rw [ZM] | rw [ZL] | rw [ZC] | rw [Zs] | rw [Zt] | rw [Zh (by decide)] | rw [Zr] | rw [Zf] | rw [Zg] | rw [Zb (by decide)] | rw [ZX] | rw [ZV (by simp [go_sem, hv]; exact ⟨rfl, rfl⟩)] | rw [ZW (by simp [lk, Za, Od.v, hv]; exact rfl)] | rw [ZS]))
    rw [Yp]
    simp [Za, lk]
  | succ k ih =>
    intro p o h hk hp hG
    by_cases c : p < n
    · have hK := hA.keep hG.1
      rcases hK.2 with ⟨_, rfl⟩ | ⟨g, r, rfl, _, h3⟩
      · simp at h8; omega
      obtain ⟨q, hq⟩ : ∃ q, q = 8 * p := ⟨_, rfl⟩
      obtain ⟨q8, hq8⟩ : ∃ q8, q8 = q + 8 := ⟨_, rfl⟩
      have z1 : IntKind.i64.wrap ((q : Int) + 8) = (q8 : Int) := (by rw [wrap64 _ (by omega) (by omega)]; omega)
      have hv := hK.vw0
      have c1 : q < a.length := by omega
      have c2 : q8 ≤ a.length := by omega
      have c3 : q ≤ q8 := by omega
      have c4 : q8 - q = 8 := by omega
      have hvv : vw h 1 (.row r g q 8 false) = some (((a.drop q).take 8).map iD) := by
        have : q + 8 ≤ a.length := by omega
        simp [vw, h3, this, List.map_drop, List.map_take]
      have hle : ∀ b ∈ (a.drop q).take 8, b ≤ 1 := fun b hb => hl b (List.mem_of_mem_drop (List.mem_of_mem_take hb))
      have e108 := run108 hvv hle (by rw [List.length_take]; omega)
      have hlt : valR ((a.drop q).take 8) < 2 ^ 8 := valR_le hle (by rw [List.length_take]; omega)
      obtain ⟨o2, h2, ha, hG2⟩ := hG.app 1 [valR ((a.drop q).take 8)] (by simp [bytesN]; omega)
      have hbn : bytesN a (p + 1) = bytesN a p ++ [valR ((a.drop q).take 8)] := by rw [hq]; simp [bytesN, List.range_succ]
      rw [← hbn] at hG2
      have hIH := ih (p + 1) o2 h2 (by omega) (by omega) hG2
      rw [show 8 * (p + 1) = q8 by omega] at hIH
      have hw0 := hG.vw0
      rw [← hq]
      have hs : C X lp66_2 [(6, .row r g 0 a.length false), (9, o), (10, .int .i64 q)] h = some (.norm, [(6, .row r g 0 a.length false), (9, o2), (10, .int .i64 q8)], h2) := by
        clear ih hIH hl hA hK hG hG2 hbn hle hvv
        generalize valR ((a.drop q).take 8) = v at *
        generalize bytesN a p = bp at *
        have ha : appx h 5 1 1 o (bp.map bD) [.int .u8 v] = some (o2, h2) := ha
        have z2 : IntKind.u8.wrap (v : Int) = (v : Int) := wrap8 hlt
        have y1 : ∀ (a : Int) h, eltL [.int .u8 a] h = some ([.int .u8 a], h) := fun _ _ => rfl
        have y2 : ∀ a, Wc 1 (.int .u8 a) := fun a => by simp [Wc, DV.cells, DV.one]
        have y3 : ∀ a, Nr (.int .u8 a) := fun a => .int _ _
        have y4 : ∀ (a : Int) h, srcOf h 1 (.list 1 [.int .u8 a] true) = some [.int .u8 a] := fun _ _ => rfl
        unfold lp66_2
        (repeat (first | rw [ZB] | rw [Zc (by simp [go_sem, z1, z2, hv, hw0, c1, c2, c3, c4, e108, ha, y1, y2, y3, y4, intAt, cutx, slcx]; exact ⟨rfl, rfl⟩)] | rw [ZR (by simp [lk, Za, Od.v, z1, z2, hv, hw0, c1, c2, c3, c4, e108, ha, y1, y2, y3, y4, intAt, cutx, slcx]; exact rfl)] | rw [Zq] | rw [Zp] | rw [ZJ] | rw [ZU] | rw [ZK] | rw [ZT] | rw [ZM] | rw [ZL] | rw [ZC] | rw [Zs] | rw [Zt] | rw [Zh (by decide)] | rw [Zr] | rw [Zf] | rw [Zg] | rw [Zb (by decide)] | rw [ZX] | rw [ZV (by simp [go_sem, z1, z2, hv, hw0, c1, c2, c3, c4, e108, ha, y1, y2, y3, y4, intAt, cutx, slcx]; exact ⟨rfl, rfl⟩)] | rw [ZW (by simp [lk, Za, Od.v, z1, z2, hv, hw0, c1, c2, c3, c4, e108, ha, y1, y2, y3, y4, intAt, cutx, slcx]; exact rfl)] | rw [ZS]))
        simp [Za, lk]
      rw [Yh, hs, Ys]
      exact hIH
    · exact ih p o h (by omega) hp hG
/-- Bytes that are told. -/
def BytesL (R : DV) (bs : List Nat) : Prop := (R = .nils ∧ bs = []) ∨ R = .list 1 (bs.map bD) false
theorem BytesL.vw {R : DV} {bs : List Nat} (h : BytesL R bs) (g : ZY) : vw g 1 R = some (bs.map bD) := by
  rcases h with ⟨rfl, rfl⟩ | rfl <;> rfl
theorem run66 {H : ZY} {L : DV} {l : List Nat} {w : Nat} (hL : ∀ h : ZY, h.take H.length = H → vw h 1 L = some (l.map iD)) (hw : w ≤ 62) (hb : l.length ≤ 4096) (hl : ∀ n ∈ l, n ≤ 100000 ∧ wN n ≤ w) :
    ∃ R, E X 66 [L, .int .i64 w] H = some (.tup [R, .int .i64 0], H) ∧ BytesL R (pack l w) := by
  have hv := hL H List.take_length
  obtain ⟨y, o1, h1, ex, hc1, g1⟩ := loop66 hL hw hb hl l.length 0 .nils H (by omega) (by omega) Grow.zero
  have hlen : (allR l w).length ≤ 4096 * 62 := by rw [allR_len]; exact Nat.mul_le_mul hb hw
  obtain ⟨o2, h2, ex2, hc2, g2⟩ := loop66b _ _ o1 h1 ((0, L) :: (1, .int .i64 w) :: (6, o1) :: (7, y) :: ex) rfl rfl (by omega) g1
  have g2 : Grow 3 iD H h2 o2 (padR (allR l w)) := g2
  have hpl := padR_len (allR l w)
  obtain ⟨y3, o3, h3, ex3, hc3, g3⟩ := loop66c g2 (n := ((allR l w).length + 7) / 8) (by rw [hpl]; omega) (by rw [hpl]; omega) (padR_le allR_le) (((allR l w).length + 7) / 8) 0 .nils h2 (by omega) (by omega) Grow.zero
  have hby : bytesN (padR (allR l w)) (((allR l w).length + 7) / 8) = pack l w := by
    rw [← packR, bytesR, bytesN, hpl]
    congr 1
    congr 1
    omega
  rw [hby] at g3
  have gF : Grow 5 bD H h3 o3 (pack l w) := by
    have e1 := take_le g2.1
    refine ⟨?_, ?_⟩
    · have e2 : h3.take H.length = (h3.take h2.length).take H.length := by rw [List.take_take, Nat.min_eq_left e1]
      rw [e2, g3.1, g2.1]
    · rcases g3.2 with h | ⟨g, o, q1, q2, q3⟩
      · exact .inl h
      · exact .inr ⟨g, o, q1, by omega, q3⟩
  obtain ⟨R, hf, hR⟩ := fin_grw gF (fun x => .int _ _) 0
  refine ⟨R, ?_, hR⟩
  rw [show ((0 : Nat) : Int) = 0 from rfl] at hc1
  rw [Nat.mul_zero, show ((0 : Nat) : Int) = 0 from rfl] at hc3
  have d0 : ¬ (w : Int) < 0 := by omega
  have d1 : ¬ (62 : Int) < (w : Int) := by omega
  have d2 : ¬ 62 < w := by omega
  have d3 : ¬ (4096 : Int) < (l.length : Int) := by omega
  have d4 : ¬ 4096 < l.length := by omega
  clear hl hL g1 g2 g3 gF hby hpl hlen hR
  rw [Yt (X := X) _ b66 _ rfl rfl]; unfold b66
  (repeat (first | rw [ZB] | rw [Zc (by simp [go_sem, hv, d0, d1, d2, d3, d4]; exact ⟨rfl, rfl⟩)] | rw [ZR (by simp [lk, Za, Od.v, hv, d0, d1, d2, d3, d4]; exact rfl)] | rw [Zq] | rw [Zp] | rw [ZJ] | rw [ZU] | rw [ZK] | rw [ZT] | rw [ZM] | rw [ZL] | rw [ZC] | rw [Zs] | rw [Zt] | rw [Zh (by decide)] | rw [Zr] | rw [Zf] | rw [Zg] | rw [Zb (by decide)] | rw [ZX] | rw [ZV (by simp [go_sem, hv, d0, d1, d2, d3, d4]; exact ⟨rfl, rfl⟩)] | rw [ZW (by simp [lk, Za, Od.v, hv, d0, d1, d2, d3, d4]; exact rfl)] | rw [ZS]))
  (try simp only [Za, List.map_cons, List.map_nil, lk, reduceIte, Nat.reduceEqDiff, Nat.zero_ne_one, Nat.one_ne_zero])
  rw [hc1]
  (repeat (first | rw [ZB] | rw [Zc (by simp [go_sem]; exact ⟨rfl, rfl⟩)] | rw [ZR (by simp [lk, Za, Od.v]; exact rfl)] | rw [Zq] | rw [Zp] | rw [ZJ] | rw [ZU] | rw [ZK] | rw [ZT] | rw [ZM] | rw [ZL] | rw [ZC] | rw [Zs] | rw [Zt] | rw [Zh (by decide)] | rw [Zr] | rw [Zf] | rw [Zg] | rw [Zb (by decide)] | rw [ZX] | rw [ZV (by simp [go_sem]; exact ⟨rfl, rfl⟩)] | rw [ZW (by simp [lk, Za, Od.v]; exact rfl)] | rw [ZS]))
  (try simp only [Za, List.map_cons, List.map_nil, lk, reduceIte, Nat.reduceEqDiff, Nat.zero_ne_one, Nat.one_ne_zero])
  rw [hc2]
  (repeat (first | rw [ZB] | rw [Zc (by simp [go_sem]; exact ⟨rfl, rfl⟩)] | rw [ZR (by simp [lk, Za, Od.v]; exact rfl)] | rw [Zq] | rw [Zp] | rw [ZJ] | rw [ZU] | rw [ZK] | rw [ZT] | rw [ZM] | rw [ZL] | rw [ZC] | rw [Zs] | rw [Zt] | rw [Zh (by decide)] | rw [Zr] | rw [Zf] | rw [Zg] | rw [Zb (by decide)] | rw [ZX] | rw [ZV (by simp [go_sem]; exact ⟨rfl, rfl⟩)] | rw [ZW (by simp [lk, Za, Od.v]; exact rfl)] | rw [ZS]))
  (try simp only [Za, List.map_cons, List.map_nil, lk, reduceIte, Nat.reduceEqDiff, Nat.zero_ne_one, Nat.one_ne_zero])
  rw [hc3]
  (repeat (first | rw [ZB] | rw [Zc (by simp [go_sem]; exact ⟨rfl, rfl⟩)] | rw [ZR (by simp [lk, Za, Od.v]; exact rfl)] | rw [Zq] | rw [Zp] | rw [ZJ] | rw [ZU] | rw [ZK] | rw [ZT] | rw [ZM] | rw [ZL] | rw [ZC] | rw [Zs] | rw [Zt] | rw [Zh (by decide)] | rw [Zr] | rw [Zf] | rw [Zg] | rw [Zb (by decide)] | rw [ZX] | rw [ZV (by simp [go_sem]; exact ⟨rfl, rfl⟩)] | rw [ZW (by simp [lk, Za, Od.v]; exact rfl)] | rw [ZS]))
  simp only [Yb, Yq, lk, Za, List.map_cons, List.map_nil, reduceIte, Option.map_some, Nat.reduceEqDiff, hf]
end Go.Proofs.YtebjndbigoddnaaDoor
