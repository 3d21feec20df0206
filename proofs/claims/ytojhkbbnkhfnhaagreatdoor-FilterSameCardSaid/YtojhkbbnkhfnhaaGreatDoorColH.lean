/- Ideal runs: a number out of bytes. Ideal runs: bits.Unpack. Ideal runs: column.ids, column.May. Ideal runs: column.May, column.Range. Columns of any kind: bits.Unpack's errors, column.ids, column.May. Plain facts: the rows of a sealed column for which a comparison holds, by its dictionary. Plain facts: a filter over a sealed segment holds for the rows for which it holds. -/
import Derived.Test.YtojhkbbnkhfnhaaGreatDoorColA
import Derived.Test.YtojhkbbnkhfnhaaGreatDoorPlainQ
import Derived.Test.YtojhkbbnkhfnhaaGreatDoorNod
namespace Go.Proofs.YtojhkbbnkhfnhaaGreatDoor
set_option linter.unusedVariables false
set_option linter.unusedSimpArgs false
set_option maxRecDepth 10000
/-- The number at the i-th place, its first k bits. -/
def numB (bs : List Nat) (w i : Nat) : Nat → Nat
  | 0 => 0
  | k + 1 => numB bs w i k ||| (bs.getD ((i * w + k) / 8) 0 / 2 ^ ((i * w + k) % 8) % 2) * 2 ^ k
theorem bit_c (bs : List Nat) (q : Nat) : decide (bs.getD (q / 8) 0 / 2 ^ (q % 8) % 2 = 1) = bitB bs q := by rw [bit01]; rfl
theorem mul_bit {c k : Nat} (hc : c ≤ 1) (j : Nat) : (c * 2 ^ k).testBit j = (decide (j = k) && decide (c = 1)) := by
  rcases (by omega : c = 0 ∨ c = 1) with rfl | rfl
  · simp
  · rw [Nat.one_mul, Nat.testBit_two_pow]
    simp [eq_comm]
theorem numB_bit (bs : List Nat) (w i : Nat) : ∀ (k j : Nat), (numB bs w i k).testBit j = (decide (j < k) && bitB bs (i * w + j))
  | 0, j => by simp [numB]
  | k + 1, j => by
    rw [numB, Nat.testBit_or, numB_bit bs w i k j, mul_bit (by omega), bit_c]
    by_cases h1 : j = k
    · subst h1; simp
    · by_cases h2 : j < k
      · have h3 : j < k + 1 := by omega
        simp [h1, h2, h3]
      · have h3 : ¬ j < k + 1 := by omega
        simp [h1, h2, h3]
theorem numB_lt (bs : List Nat) (w i : Nat) : ∀ k, numB bs w i k < 2 ^ k
  | 0 => by simp [numB]
  | k + 1 => by
    have h1 := numB_lt bs w i k
    rw [numB]
    have h2 : bs.getD ((i * w + k) / 8) 0 / 2 ^ ((i * w + k) % 8) % 2 ≤ 1 := by omega
    generalize bs.getD ((i * w + k) / 8) 0 / 2 ^ ((i * w + k) % 8) % 2 = c at *
    have h3 : 2 ^ (k + 1) = 2 ^ k + 2 ^ k := by rw [Nat.pow_succ]; omega
    have h4 : c * 2 ^ k ≤ 1 * 2 ^ k := Nat.mul_le_mul_right (2 ^ k) h2
    apply Nat.or_lt_two_pow
    · omega
    · omega
theorem lt_wN (n : Nat) : n < 2 ^ wN n := by
  induction n using Nat.strongRecOn with
  | _ n ih =>
    rcases Nat.eq_zero_or_pos n with rfl | hp
    · exact Nat.two_pow_pos _
    · rw [wN_half n hp, Nat.pow_succ]
      have := ih (n / 2) (by omega)
      omega
theorem numB_pack (l : List Nat) (w i : Nat) (h : i < l.length) (hw : wN l[i] ≤ w) : numB (pack l w) w i w = l[i] := by
  apply Nat.eq_of_testBit_eq
  intro j
  rw [numB_bit, pack_bit]
  have hlt : l[i] < 2 ^ w := Nat.lt_of_lt_of_le (lt_wN _) (Nat.pow_le_pow_right (by omega) hw)
  by_cases c : j < w
  · have h1 : i * w + j < l.length * w := by
      have : i * w + w ≤ l.length * w := by rw [← Nat.succ_mul]; exact Nat.mul_le_mul_right w h
      omega
    have h2 : (i * w + j) / w = i := by
      rw [Nat.mul_comm, Nat.mul_add_div (by omega), Nat.div_eq_of_lt c, Nat.add_zero]
    have h3 : (i * w + j) % w = j := by
      rw [Nat.mul_comm, Nat.mul_add_mod, Nat.mod_eq_of_lt c]
    rw [h2, h3, List.getD_eq_getElem?_getD, List.getElem?_eq_getElem h]
    simp [c, h1]
  · rw [Nat.testBit_lt_two_pow (Nat.lt_of_lt_of_le hlt (Nat.pow_le_pow_right (by omega) (by omega)))]
    simp [c]
/-- The bytes' box, and the number's. -/
def nh (H : ZD) (L : DV) (x : Nat) : ZD := H ++ [.box 59 [L], .box 3 [.int .i64 x]]
theorem run153 {H : ZD} {L : DV} {bs : List Nat} (hL : ∀ g, vw g 1 L = some (bs.map bD)) (bb : BB bs) {x a k : Nat} (ha : a / 8 < bs.length) (ha' : a < 10000000) (hk : k ≤ 61) (hx : x < 2 ^ k) :
    E X 153 [.int .i64 a, .int .i64 k, .ref (H.length + 1) 0, .ref H.length 0] (nh H L x) = some (.tup [], nh H L (x ||| (bs.getD (a / 8) 0 / 2 ^ (a % 8) % 2) * 2 ^ k)) := by
  obtain ⟨p, hp⟩ : ∃ p, p = a / 8 := ⟨_, rfl⟩
  obtain ⟨j, hj⟩ : ∃ j, j = a % 8 := ⟨_, rfl⟩
  have hp' : p < bs.length := by omega
  have e1 : bs.getD p 0 = bs[p] := by rw [List.getD_eq_getElem?_getD, List.getElem?_eq_getElem hp']; rfl
  have hb := bb _ (List.getElem_mem hp')
  rw [← hp, ← hj, e1]
  obtain ⟨b, hbb⟩ : ∃ b, b = bs[p] := ⟨_, rfl⟩
  have hbb' := hbb.symm
  rw [← hbb] at hb ⊢
  obtain ⟨q, hq⟩ : ∃ q, q = b / 2 ^ j := ⟨_, rfl⟩
  obtain ⟨c, hc⟩ : ∃ c, c = q % 2 := ⟨_, rfl⟩
  rw [← hq, ← hc]
  have hc1 : c ≤ 1 := by omega
  have hqb : q ≤ b := by rw [hq]; exact Nat.div_le_self _ _
  have hcu : c * 2 ^ k < 2 ^ 62 := by
    have h1 : 2 ^ k ≤ 2 ^ 61 := Nat.pow_le_pow_right (by omega) hk
    have h2 : c * 2 ^ k ≤ 1 * 2 ^ 61 := Nat.mul_le_mul hc1 h1
    have h3 : (2 : Nat) ^ 62 = 2 * 2 ^ 61 := by decide
    have h4 : 0 < (2 : Nat) ^ 61 := Nat.two_pow_pos _
    omega
  have hx62 : x < 2 ^ 62 := Nat.lt_of_lt_of_le hx (Nat.pow_le_pow_right (by omega) (by omega))
  have hor : x ||| c * 2 ^ k < 2 ^ 62 := Nat.or_lt_two_pow hx62 hcu
  have h62 : (2 : Nat) ^ 62 = 4611686018427387904 := by decide
  rw [h62] at hcu hx62 hor
  have f1 : (nh H L x)[H.length]? = some (.box 59 [L]) := by simp [nh]
  have f2 : (nh H L x)[H.length + 1]? = some (.box 3 [.int .i64 x]) := by simp [nh, hget]
  have f3 : ∀ y, (nh H L x).set (H.length + 1) (.box 3 [.int .i64 y]) = H ++ [.box 59 [L], .box 3 [.int .i64 y]] := fun y => by simp [nh, Yj]
  have f5 : fin (nh H L x) (nh H L (x ||| c * 2 ^ k)) [] = _ := finU (by simp [nh])
  have f6 : H ++ [.box 59 [L], .box 3 [.int .i64 (x ||| c * 2 ^ k : Nat)]] = nh H L (x ||| c * 2 ^ k) := rfl
  have z1 : IntKind.i64.wrap ((a : Int) / 8) = (p : Int) := (by rw [wrap64 _ (by omega) (by omega)]; omega)
  have z2 : ((a : Int)).tmod 8 = (j : Int) := by rw [Int.tmod_eq_emod_of_nonneg (by omega)]; omega
  have z3 : ((b : Int)).fdiv (2 ^ min j IntKind.u8.bits) = (q : Int) := by
    rw [show min j IntKind.u8.bits = j from Nat.min_eq_left (by simp [IntKind.bits]; omega), show (2 : Int) ^ j = ((2 ^ j : Nat) : Int) by simp, Int.fdiv_eq_ediv_of_nonneg _ (Int.natCast_nonneg _), hq]
    rfl
  have z4 : IntKind.u8.wrap ((q % 2 ^ IntKind.u8.bits &&& 1 % 2 ^ IntKind.u8.bits : Nat) : Int) = (c : Int) := by
    rw [show 2 ^ IntKind.u8.bits = 256 from rfl, Nat.mod_eq_of_lt (by omega), show 1 % 256 = 2 ^ 1 - 1 from rfl, Nat.and_two_pow_sub_one_eq_mod, wrap8 (by omega), hc]
  have z5 : IntKind.i64.wrap (c : Int) = (c : Int) := wrap64 _ (by omega) (by omega)
  have z6 : IntKind.i64.wrap ((c : Int) * 2 ^ min k IntKind.i64.bits) = ((c * 2 ^ k : Nat) : Int) := by
    rw [show min k IntKind.i64.bits = k from Nat.min_eq_left (by simp [IntKind.bits]; omega), show (2 : Int) ^ k = ((2 ^ k : Nat) : Int) by simp, ← Int.natCast_mul, wrap64 _ (by omega) (by omega)]
  have d0 : ¬ (j : Int) < 0 := by omega
  have d1 : ¬ (k : Int) < 0 := by omega
  generalize c * 2 ^ k = ck at *
  have z7 : IntKind.i64.wrap ((x % 2 ^ IntKind.i64.bits ||| ck % 2 ^ IntKind.i64.bits : Nat) : Int) = ((x ||| ck : Nat) : Int) := by
    rw [show 2 ^ IntKind.i64.bits = 18446744073709551616 from rfl, Nat.mod_eq_of_lt (by omega), Nat.mod_eq_of_lt (by omega), wrap64 _ (by omega) (by omega)]
  have hLv := hL (nh H L x)
  generalize x ||| ck = ob at *
  generalize nh H L ob = P2 at *
  generalize nh H L x = P1 at *
  rw [Yc (X := X) _ b153 _ rfl rfl]; unfold b153
  (repeat (first | rw [Zj] | rw [Zc (by simp [Ya, ZT, ZV, ZW, ZO, ZF, ZM, ZI, ZK, ZB, ZC, ZJ, ZP, ZQ, ZX, ↓ZH, ZN, ZG, ZU, Zp, Zm, Yg, ZS, Yq, put, lk, Od.v, Za, ZE, ZA, YB, Ym, Yn, Yo, unx, YE, DV.isU, DV.cells, hget, Yb, Yj, Yd, ZL, splice, DV.one, Ye, mat, Yi, YD, f1, f2, f3, f6, hLv, z1, z2, z3, z4, z5, z6, z7, d0, d1, ZR, hp', hbb']; exact ⟨rfl, rfl⟩)] | rw [Zv (by simp [lk, Za, Od.v, f1, f2, f3, f6, hLv, z1, z2, z3, z4, z5, z6, z7, d0, d1, ZR, hp', hbb']; exact rfl)] | rw [Zp] | rw [Zm] | rw [Zl] | rw [Zy] | rw [Zq] | rw [Zt] | rw [Zo] | rw [Zn] | rw [Zk] | rw [Zg] | rw [Zh] | rw [Zd (by decide)] | rw [Zi] | rw [Ze] | rw [Zf] | rw [Zb (by decide)] | rw [Zz] | rw [Zu (by simp [Ya, ZT, ZV, ZW, ZO, ZF, ZM, ZI, ZK, ZB, ZC, ZJ, ZP, ZQ, ZX, ↓ZH, ZN, ZG, ZU, Zp, Zm, Yg, ZS, Yq, put, lk, Od.v, Za, ZE, ZA, YB, Ym, Yn, Yo, unx, YE, DV.isU, DV.cells, hget, Yb, Yj, Yd, ZL, splice, DV.one, Ye, mat, Yi, YD, f1, f2, f3, f6, hLv, z1, z2, z3, z4, z5, z6, z7, d0, d1, ZR, hp', hbb']; exact ⟨rfl, rfl⟩)] | rw [Zw (by simp [lk, Za, Od.v, f1, f2, f3, f6, hLv, z1, z2, z3, z4, z5, z6, z7, d0, d1, ZR, hp', hbb']; exact rfl)] | rw [Zx]))
  rw [Zs]
  simp only [ZY, Option.map_some, f5]
theorem run126 {H : ZD} {L : DV} {bs : List Nat} (hB : BytesL L bs) (bb : BB bs) {w i : Nat} (hw : w ≤ 62) (hi : i ≤ 100000) (hlen : i * w + w ≤ 8 * bs.length) :
    E X 126 [L, .int .i64 i, .int .i64 w] H = some (.int .i64 (numB bs w i w : Nat), H) := by
  have hmul : i * w ≤ 100000 * 62 := Nat.mul_le_mul hi hw
  have e103 := run151 (f := 153) (w := w) (i := i) (cap := [.ref (H.length + 1) 0, .ref H.length 0]) (S := fun k => nh H L (numB bs w i k)) hw hi
    (fun k hk => run153 hB.vw bb (by omega) (by omega) (by omega) (numB_lt bs w i k)) (by simp [nh])
  simp only [nh, numB] at e103
  generalize numB bs w i w = r at *
  have e103 : E X 151 [.int .i64 i, .int .i64 w, .func 153 [] [.ref (H.length + 1) 0, .ref H.length 0]] (H ++ [.box 59 [L], .box 3 [.int .i64 0]]) = some (.tup [], H ++ [.box 59 [L], .box 3 [.int .i64 r]]) := e103
  rcases hB with ⟨rfl, rfl⟩ | rfl
  · rw [Yc (X := X) _ b126 _ rfl rfl]; unfold b126; (repeat (first | rw [Zj] | rw [Zc (by simp [Ya, ZT, ZV, ZW, ZO, ZF, ZM, ZI, ZK, ZB, ZC, ZJ, ZP, ZQ, ZX, ↓ZH, ZN, ZG, ZU, Zp, Zm, Yg, ZS, Yq, put, lk, Od.v, Za, ZE, ZA, YB, Ym, Yn, Yo, unx, YE, DV.isU, DV.cells, hget, Yb, Yj, Yd, ZL, splice, DV.one, Ye, mat, Yi, YD, e103]; exact ⟨rfl, rfl⟩)] | rw [Zv (by simp [lk, Za, Od.v, e103]; exact rfl)] | rw [Zp] | rw [Zm] | rw [Zl] | rw [Zy] | rw [Zq] | rw [Zt] | rw [Zo] | rw [Zn] | rw [Zk] | rw [Zg] | rw [Zh] | rw [Zd (by decide)] | rw [Zi] | rw [Ze] | rw [Zf] | rw [Zb (by decide)] | rw [Zz] | rw [Zu (by simp [Ya, ZT, ZV, ZW, ZO, ZF, ZM, ZI, ZK, ZB, ZC, ZJ, ZP, ZQ, ZX, ↓ZH, ZN, ZG, ZU, Zp, Zm, Yg, ZS, Yq, put, lk, Od.v, Za, ZE, ZA, YB, Ym, Yn, Yo, unx, YE, DV.isU, DV.cells, hget, Yb, Yj, Yd, ZL, splice, DV.one, Ye, mat, Yi, YD, e103]; exact ⟨rfl, rfl⟩)] | rw [Zw (by simp [lk, Za, Od.v, e103]; exact rfl)] | rw [Zx])); simp [Zr, Zs, ZY, Ya, ZT, ZV, ZW, ZO, ZF, ZM, ZI, ZK, ZB, ZC, ZJ, ZP, ZQ, ZX, ↓ZH, ZN, ZG, ZU, Zp, Zm, Yg, ZS, Yq, put, lk, Od.v, Za, ZE, ZA, YB, Ym, Yn, Yo, unx, YE, DV.isU, DV.cells, hget, Yb, Yj, Yd, ZL, splice, DV.one, Ye, mat, Yi, YD, fin, Yu, Yt, YA, Yy, YC, e103]
  · rw [Yc (X := X) _ b126 _ rfl rfl]; unfold b126; (repeat (first | rw [Zj] | rw [Zc (by simp [Ya, ZT, ZV, ZW, ZO, ZF, ZM, ZI, ZK, ZB, ZC, ZJ, ZP, ZQ, ZX, ↓ZH, ZN, ZG, ZU, Zp, Zm, Yg, ZS, Yq, put, lk, Od.v, Za, ZE, ZA, YB, Ym, Yn, Yo, unx, YE, DV.isU, DV.cells, hget, Yb, Yj, Yd, ZL, splice, DV.one, Ye, mat, Yi, YD, e103]; exact ⟨rfl, rfl⟩)] | rw [Zv (by simp [lk, Za, Od.v, e103]; exact rfl)] | rw [Zp] | rw [Zm] | rw [Zl] | rw [Zy] | rw [Zq] | rw [Zt] | rw [Zo] | rw [Zn] | rw [Zk] | rw [Zg] | rw [Zh] | rw [Zd (by decide)] | rw [Zi] | rw [Ze] | rw [Zf] | rw [Zb (by decide)] | rw [Zz] | rw [Zu (by simp [Ya, ZT, ZV, ZW, ZO, ZF, ZM, ZI, ZK, ZB, ZC, ZJ, ZP, ZQ, ZX, ↓ZH, ZN, ZG, ZU, Zp, Zm, Yg, ZS, Yq, put, lk, Od.v, Za, ZE, ZA, YB, Ym, Yn, Yo, unx, YE, DV.isU, DV.cells, hget, Yb, Yj, Yd, ZL, splice, DV.one, Ye, mat, Yi, YD, e103]; exact ⟨rfl, rfl⟩)] | rw [Zw (by simp [lk, Za, Od.v, e103]; exact rfl)] | rw [Zx])); simp [Zr, Zs, ZY, Ya, ZT, ZV, ZW, ZO, ZF, ZM, ZI, ZK, ZB, ZC, ZJ, ZP, ZQ, ZX, ↓ZH, ZN, ZG, ZU, Zp, Zm, Yg, ZS, Yq, put, lk, Od.v, Za, ZE, ZA, YB, Ym, Yn, Yo, unx, YE, DV.isU, DV.cells, hget, Yb, Yj, Yd, ZL, splice, DV.one, Ye, mat, Yi, YD, fin, Yu, Yt, YA, Yy, YC, e103]
def rh (H : ZD) (cur : List Nat) : ZD := H ++ [.row 3 1 0 (cur.map iD)]
theorem pack_last (l : List Nat) (w : Nat) (h : 0 < l.length * w % 8) : (pack l w).getD ((l.length * w + 7) / 8 - 1) 0 < 2 ^ (l.length * w % 8) := by
  apply Nat.lt_pow_two_of_testBit
  intro j hj
  by_cases c : j < 8
  · have := pack_bit l w (8 * ((l.length * w + 7) / 8 - 1) + j)
    unfold bitB at this
    rw [show (8 * ((l.length * w + 7) / 8 - 1) + j) / 8 = (l.length * w + 7) / 8 - 1 by omega, show (8 * ((l.length * w + 7) / 8 - 1) + j) % 8 = j by omega] at this
    rw [this]
    have : ¬ 8 * ((l.length * w + 7) / 8 - 1) + j < l.length * w := by omega
    simp [this]
  · have hb := (pack_BB l w).getD ((l.length * w + 7) / 8 - 1)
    have hp : 256 ≤ 2 ^ j := Nat.le_trans (by decide : 256 ≤ 2 ^ 8) (Nat.pow_le_pow_right (by omega) (by omega))
    exact Nat.testBit_lt_two_pow (by omega)
theorem loop110 {H : ZD} {L : DV} {l : List Nat} {w n : Nat} (hB : BytesL L (pack l w)) (hw : w ≤ 62) (hn : l.length = n) (hb : n ≤ 4096) (hl : ∀ p ∈ l, wN p ≤ w) :
    ∀ (k i : Nat) (cur : List Nat), n - i ≤ k → i ≤ n → cur.length = n → (∀ j, j < i → cur[j]? = l[j]?) →
      ∃ y ex, C X (.loop lp110_0) [(0, L), (2, .int .i64 w), (8, .row H.length 0 0 n false), (55, .int .i64 n), (56, .int .i64 i)] (rh H cur) = some (.exit 1, (0, L) :: (2, .int .i64 w) :: (8, .row H.length 0 0 n false) :: (55, .int .i64 n) :: (56, y) :: ex, rh H l) := by
  intro k
  induction k with
  | zero =>
    intro i cur hk hi hc h1
    obtain rfl : i = n := by omega
    have hcl : cur = l := by
      apply List.ext_getElem?
      intro j
      by_cases c : j < i
      · exact h1 j c
      · rw [List.getElem?_eq_none (by omega), List.getElem?_eq_none (by omega)]
    rw [hcl]
    refine ⟨.int .i64 i, [(57, .bool false)], ?_⟩
    generalize rh H l = P
    rw [Yh]
    unfold lp110_0
    (repeat (first | rw [Zj] | rw [Zc (by simp [Ya, ZT, ZV, ZW, ZO, ZF, ZM, ZI, ZK, ZB, ZC, ZJ, ZP, ZQ, ZX, ↓ZH, ZN, ZG, ZU, Zp, Zm, Yg, ZS, Yq, put, lk, Od.v, Za, ZE, ZA, YB, Ym, Yn, Yo, unx, YE, DV.isU, DV.cells, hget, Yb, Yj, Yd, ZL, splice, DV.one, Ye, mat, Yi, YD]; exact ⟨rfl, rfl⟩)] | rw [Zv (by simp [lk, Za, Od.v]; exact rfl)] | rw [Zp] | rw [Zm] | rw [Zl] | rw [Zy] | rw [Zq] | rw [Zt] | rw [Zo] | rw [Zn] | rw [Zk] | rw [Zg] | rw [Zh] | rw [Zd (by decide)] | rw [Zi] | rw [Ze] | rw [Zf] | rw [Zb (by decide)] | rw [Zz] | rw [Zu (by simp [Ya, ZT, ZV, ZW, ZO, ZF, ZM, ZI, ZK, ZB, ZC, ZJ, ZP, ZQ, ZX, ↓ZH, ZN, ZG, ZU, Zp, Zm, Yg, ZS, Yq, put, lk, Od.v, Za, ZE, ZA, YB, Ym, Yn, Yo, unx, YE, DV.isU, DV.cells, hget, Yb, Yj, Yd, ZL, splice, DV.one, Ye, mat, Yi, YD]; exact ⟨rfl, rfl⟩)] | rw [Zw (by simp [lk, Za, Od.v]; exact rfl)] | rw [Zx]))
    rw [Yx]
    simp [Za, lk]
  | succ k ih =>
    intro i cur hk hi hc h1
    by_cases c : i < n
    · obtain ⟨I, hI⟩ : ∃ I, I = i + 1 := ⟨_, rfl⟩
      have z1 : IntKind.i64.wrap ((i : Int) + 1) = (I : Int) := (by rw [wrap64 _ (by omega) (by omega)]; omega)
      have hil : i < l.length := by omega
      have hpl : i * w + w ≤ l.length * w := by rw [← Nat.succ_mul]; exact Nat.mul_le_mul_right w hil
      have e109 := run126 (H := rh H cur) hB (pack_BB l w) hw (i := i) (by omega) (by rw [pack_len]; omega)
      rw [numB_pack l w i hil (hl _ (List.getElem_mem hil))] at e109
      have hrow : (rh H cur)[H.length]? = some (.row 3 1 0 (cur.map iD)) := by simp [rh]
      have r1 := row_vw hrow hc
      have r2 := row_wr hrow hc c l[i]
      have Yj : (rh H cur).set H.length (.row 3 1 0 ((cur.set i l[i]).map iD)) = rh H (cur.set i l[i]) := by simp [rh, Yd]
      rw [Yj] at r2
      obtain ⟨y, ex, hc2⟩ := ih I (cur.set i l[i]) (by omega) (by omega) (by simpa using hc) (fun j hj => by
        by_cases hji : j = i
        · subst hji
          rw [List.getElem?_set_self (by omega), List.getElem?_eq_getElem hil]
        · rw [List.getElem?_set_ne (Ne.symm hji)]; exact h1 j (by omega))
      refine ⟨y, ex, ?_⟩
      have hs : C X lp110_0 [(0, L), (2, .int .i64 w), (8, .row H.length 0 0 n false), (55, .int .i64 n), (56, .int .i64 i)] (rh H cur) = some (.norm, [(0, L), (2, .int .i64 w), (8, .row H.length 0 0 n false), (55, .int .i64 n), (56, .int .i64 I)], rh H (cur.set i l[i])) := by
        clear ih hc2 hB hl h1 Yj hrow
        generalize rh H (cur.set i l[i]) = P2 at *
        generalize rh H cur = P1 at *
        generalize l[i] = x at *
        unfold lp110_0
        (repeat (first | rw [Zj] | rw [Zc (by simp [Ya, ZT, ZV, ZW, ZO, ZF, ZM, ZI, ZK, ZB, ZC, ZJ, ZP, ZQ, ZX, ↓ZH, ZN, ZG, ZU, Zp, Zm, Yg, ZS, Yq, put, lk, Od.v, Za, ZE, ZA, YB, Ym, Yn, Yo, unx, YE, DV.isU, DV.cells, hget, Yb, Yj, Yd, ZL, splice, DV.one, Ye, mat, Yi, YD, c, z1, e109, r1, r2, hc]; exact ⟨rfl, rfl⟩)] | rw [Zv (by simp [lk, Za, Od.v, c, z1, e109, r1, r2, hc]; exact rfl)] | rw [Zp] | rw [Zm] | rw [Zl] | rw [Zy] | rw [Zq] | rw [Zt] | rw [Zo] | rw [Zn] | rw [Zk] | rw [Zg] | rw [Zh] | rw [Zd (by decide)] | rw [Zi] | rw [Ze] | rw [Zf] | rw [Zb (by decide)] | rw [Zz] | rw [Zu (by simp [Ya, ZT, ZV, ZW, ZO, ZF, ZM, ZI, ZK, ZB, ZC, ZJ, ZP, ZQ, ZX, ↓ZH, ZN, ZG, ZU, Zp, Zm, Yg, ZS, Yq, put, lk, Od.v, Za, ZE, ZA, YB, Ym, Yn, Yo, unx, YE, DV.isU, DV.cells, hget, Yb, Yj, Yd, ZL, splice, DV.one, Ye, mat, Yi, YD, c, z1, e109, r1, r2, hc]; exact ⟨rfl, rfl⟩)] | rw [Zw (by simp [lk, Za, Od.v, c, z1, e109, r1, r2, hc]; exact rfl)] | rw [Zx]))
        simp [Za, lk]
      rw [Yh, hs, Yw]
      exact hc2
    · exact ih i cur (by omega) hi hc h1
theorem run110 {H : ZD} {L : DV} {l : List Nat} {w n : Nat} (hB : BytesL L (pack l w)) (hw : w ≤ 62) (hn : l.length = n) (hb : n ≤ 4096) (hl : ∀ p ∈ l, wN p ≤ w) :
    ∃ R, E X 110 [L, .int .i64 n, .int .i64 w] H = some (.tup [R, .int .i64 0], H) ∧ ((R = .nils ∧ l = []) ∨ R = .list 1 (l.map iD) false) := by
  have e100 := run125 w hw H
  have e101 := run143 n w (by omega) hw H
  have hv := hB.vw H
  have hpl := pack_len l w
  have hla := pack_last l w
  rw [hn] at hpl hla
  obtain ⟨y, ex, hc⟩ := loop110 (H := H) hB hw hn hb hl n 0 (List.replicate n 0) (by omega) (by omega) (by simp) (fun j hj => by omega)
  have hr0 : rh H (List.replicate n 0) = H ++ [.row 3 1 0 (List.replicate n (.int .i64 0))] := by simp [rh]
  rw [hr0, show ((0 : Nat) : Int) = 0 from rfl] at hc
  have gF : Grow 3 iD H (rh H l) (.row H.length 0 0 n false) l := ⟨by simp [rh], .inr ⟨0, H.length, by rw [hn], Nat.le_refl _, by simp [rh]⟩⟩
  obtain ⟨R, hf, hR⟩ := fin_grw gF (fun x => .int _ _) 0
  refine ⟨R, ?_, hR⟩
  have hmul : n * w ≤ 4096 * 62 := Nat.mul_le_mul hb hw
  have hr3 : vw (H ++ [HO.row 3 1 0 (List.replicate n (.int .i64 0))]) 1 (.row H.length 0 0 n false) = some (List.replicate n (.int .i64 0)) := by simp [vw, List.take_of_length_le]
  obtain ⟨P, hP⟩ : ∃ P, P = n * w := ⟨_, rfl⟩
  rw [← hP] at hpl hla e101
  have z1 : IntKind.i64.wrap ((n : Int) * (w : Int)) = (P : Int) := by
    rw [← Int.natCast_mul, ← hP, wrap64 _ (by omega) (by omega)]
  obtain ⟨r, hr⟩ : ∃ r, r = P % 8 := ⟨_, rfl⟩
  have z2 : ((P : Int)).tmod 8 = (r : Int) := by rw [Int.tmod_eq_emod_of_nonneg (by omega)]; omega
  obtain ⟨m, hm⟩ : ∃ m, m = (P + 7) / 8 := ⟨_, rfl⟩
  rw [← hm] at hpl hla e101
  rw [← hr] at hla
  have d1 : ¬ (4096 : Int) < (n : Int) := by omega
  have d2 : ¬ 4096 < n := by omega
  have d3 : ¬ (n : Int) < 0 := by omega
  have m0 : (0 : Int) ≤ (n : Int) := by omega
  have m1 : (n : Int) * 8 ≤ 140737488355328 := by omega
  have hW : Wc 1 (.int .i64 0) := by simp [Wc, DV.cells, DV.one]
  generalize pack l w = pk at *
  clear hl hB gF hR hr0
  by_cases h0 : r = 0
  · have d4 : ¬ (0 : Int) < (r : Int) := by omega
    have d5 : ¬ 0 < r := by omega
    rw [Yc (X := X) _ b110 _ rfl rfl]; unfold b110
    (repeat (first | rw [Zj] | rw [Zc (by simp [Ya, ZT, ZV, ZW, ZO, ZF, ZM, ZI, ZK, ZB, ZC, ZJ, ZP, ZQ, ZX, ↓ZH, ZN, ZG, ZU, Zp, Zm, Yg, ZS, Yq, put, lk, Od.v, Za, ZE, ZA, YB, Ym, Yn, Yo, unx, YE, DV.isU, DV.cells, hget, Yb, Yj, Yd, ZL, splice, DV.one, Ye, mat, Yi, YD, e100, e101, hv, hpl, z1, z2, d1, d2, d3, d4, d5, m0, m1, hW, hr3]; exact ⟨rfl, rfl⟩)] | rw [Zv (by simp [lk, Za, Od.v, e100, e101, hv, hpl, z1, z2, d1, d2, d3, d4, d5, m0, m1, hW, hr3]; exact rfl)] | rw [Zp] | rw [Zm] | rw [Zl] | rw [Zy] | rw [Zq] | rw [Zt] | rw [Zo] | rw [Zn] | rw [Zk] | rw [Zg] | rw [Zh] | rw [Zd (by decide)] | rw [Zi] | rw [Ze] | rw [Zf] | rw [Zb (by decide)] | rw [Zz] | rw [Zu (by simp [Ya, ZT, ZV, ZW, ZO, ZF, ZM, ZI, ZK, ZB, ZC, ZJ, ZP, ZQ, ZX, ↓ZH, ZN, ZG, ZU, Zp, Zm, Yg, ZS, Yq, put, lk, Od.v, Za, ZE, ZA, YB, Ym, Yn, Yo, unx, YE, DV.isU, DV.cells, hget, Yb, Yj, Yd, ZL, splice, DV.one, Ye, mat, Yi, YD, e100, e101, hv, hpl, z1, z2, d1, d2, d3, d4, d5, m0, m1, hW, hr3]; exact ⟨rfl, rfl⟩)] | rw [Zw (by simp [lk, Za, Od.v, e100, e101, hv, hpl, z1, z2, d1, d2, d3, d4, d5, m0, m1, hW, hr3]; exact rfl)] | rw [Zx]))
    (try simp only [Za, List.map_cons, List.map_nil, lk, reduceIte, Nat.reduceEqDiff, Nat.zero_ne_one, Nat.one_ne_zero])
    rw [hc]
    (repeat (first | rw [Zj] | rw [Zc (by simp [Ya, ZT, ZV, ZW, ZO, ZF, ZM, ZI, ZK, ZB, ZC, ZJ, ZP, ZQ, ZX, ↓ZH, ZN, ZG, ZU, Zp, Zm, Yg, ZS, Yq, put, lk, Od.v, Za, ZE, ZA, YB, Ym, Yn, Yo, unx, YE, DV.isU, DV.cells, hget, Yb, Yj, Yd, ZL, splice, DV.one, Ye, mat, Yi, YD]; exact ⟨rfl, rfl⟩)] | rw [Zv (by simp [lk, Za, Od.v]; exact rfl)] | rw [Zp] | rw [Zm] | rw [Zl] | rw [Zy] | rw [Zq] | rw [Zt] | rw [Zo] | rw [Zn] | rw [Zk] | rw [Zg] | rw [Zh] | rw [Zd (by decide)] | rw [Zi] | rw [Ze] | rw [Zf] | rw [Zb (by decide)] | rw [Zz] | rw [Zu (by simp [Ya, ZT, ZV, ZW, ZO, ZF, ZM, ZI, ZK, ZB, ZC, ZJ, ZP, ZQ, ZX, ↓ZH, ZN, ZG, ZU, Zp, Zm, Yg, ZS, Yq, put, lk, Od.v, Za, ZE, ZA, YB, Ym, Yn, Yo, unx, YE, DV.isU, DV.cells, hget, Yb, Yj, Yd, ZL, splice, DV.one, Ye, mat, Yi, YD]; exact ⟨rfl, rfl⟩)] | rw [Zw (by simp [lk, Za, Od.v]; exact rfl)] | rw [Zx]))
    simp only [Zr, ZY, lk, Za, List.map_cons, List.map_nil, reduceIte, Option.map_some, Nat.reduceEqDiff, hf]
  · have d4 : (0 : Int) < (r : Int) := by omega
    have d5 : 0 < r := by omega
    have hlt := hla d5
    obtain ⟨q, hq⟩ : ∃ q, q = m - 1 := ⟨_, rfl⟩
    have hqm : q < pk.length := by omega
    have hqm' : q < m := by omega
    have hqv : (pk.map bD)[q]? = some (bD pk[q]) := by simp [hqm]
    rw [← hq, List.getD_eq_getElem?_getD, List.getElem?_eq_getElem hqm] at hlt
    have hlt : pk[q] < 2 ^ r := hlt
    obtain ⟨x, hx⟩ : ∃ x, x = pk[q] := ⟨_, rfl⟩
    have hx' := hx.symm
    rw [← hx] at hlt
    have z3 : IntKind.i64.wrap ((m : Int) - 1) = (q : Int) := (by rw [wrap64 _ (by omega) (by omega)]; omega)
    have z4 : ((x : Int)).fdiv (2 ^ min r IntKind.u8.bits) = 0 := by
      rw [show min r IntKind.u8.bits = r from Nat.min_eq_left (by simp [IntKind.bits]; omega), show (2 : Int) ^ r = ((2 ^ r : Nat) : Int) by simp, Int.fdiv_eq_ediv_of_nonneg _ (Int.natCast_nonneg _), ← Int.natCast_ediv, Nat.div_eq_of_lt hlt]
      rfl
    have d6 : ¬ (r : Int) < 0 := by omega
    rw [Yc (X := X) _ b110 _ rfl rfl]; unfold b110
    (repeat (first | rw [Zj] | rw [Zc (by simp [Ya, ZT, ZV, ZW, ZO, ZF, ZM, ZI, ZK, ZB, ZC, ZJ, ZP, ZQ, ZX, ↓ZH, ZN, ZG, ZU, Zp, Zm, Yg, ZS, Yq, put, lk, Od.v, Za, ZE, ZA, YB, Ym, Yn, Yo, unx, YE, DV.isU, DV.cells, hget, Yb, Yj, Yd, ZL, splice, DV.one, Ye, mat, Yi, YD, e100, e101, hv, hpl, z1, z2, z3, z4, d1, d2, d3, d4, d5, d6, m0, m1, hW, hr3, hqm, hqm', hx', hqv, ZR]; exact ⟨rfl, rfl⟩)] | rw [Zv (by simp [lk, Za, Od.v, e100, e101, hv, hpl, z1, z2, z3, z4, d1, d2, d3, d4, d5, d6, m0, m1, hW, hr3, hqm, hqm', hx', hqv, ZR]; exact rfl)] | rw [Zp] | rw [Zm] | rw [Zl] | rw [Zy] | rw [Zq] | rw [Zt] | rw [Zo] | rw [Zn] | rw [Zk] | rw [Zg] | rw [Zh] | rw [Zd (by decide)] | rw [Zi] | rw [Ze] | rw [Zf] | rw [Zb (by decide)] | rw [Zz] | rw [Zu (by simp [Ya, ZT, ZV, ZW, ZO, ZF, ZM, ZI, ZK, ZB, ZC, ZJ, ZP, ZQ, ZX, ↓ZH, ZN, ZG, ZU, Zp, Zm, Yg, ZS, Yq, put, lk, Od.v, Za, ZE, ZA, YB, Ym, Yn, Yo, unx, YE, DV.isU, DV.cells, hget, Yb, Yj, Yd, ZL, splice, DV.one, Ye, mat, Yi, YD, e100, e101, hv, hpl, z1, z2, z3, z4, d1, d2, d3, d4, d5, d6, m0, m1, hW, hr3, hqm, hqm', hx', hqv, ZR]; exact ⟨rfl, rfl⟩)] | rw [Zw (by simp [lk, Za, Od.v, e100, e101, hv, hpl, z1, z2, z3, z4, d1, d2, d3, d4, d5, d6, m0, m1, hW, hr3, hqm, hqm', hx', hqv, ZR]; exact rfl)] | rw [Zx]))
    (try simp only [Za, List.map_cons, List.map_nil, lk, reduceIte, Nat.reduceEqDiff, Nat.zero_ne_one, Nat.one_ne_zero])
    rw [hc]
    (repeat (first | rw [Zj] | rw [Zc (by simp [Ya, ZT, ZV, ZW, ZO, ZF, ZM, ZI, ZK, ZB, ZC, ZJ, ZP, ZQ, ZX, ↓ZH, ZN, ZG, ZU, Zp, Zm, Yg, ZS, Yq, put, lk, Od.v, Za, ZE, ZA, YB, Ym, Yn, Yo, unx, YE, DV.isU, DV.cells, hget, Yb, Yj, Yd, ZL, splice, DV.one, Ye, mat, Yi, YD]; exact ⟨rfl, rfl⟩)] | rw [Zv (by simp [lk, Za, Od.v]; exact rfl)] | rw [Zp] | rw [Zm] | rw [Zl] | rw [Zy] | rw [Zq] | rw [Zt] | rw [Zo] | rw [Zn] | rw [Zk] | rw [Zg] | rw [Zh] | rw [Zd (by decide)] | rw [Zi] | rw [Ze] | rw [Zf] | rw [Zb (by decide)] | rw [Zz] | rw [Zu (by simp [Ya, ZT, ZV, ZW, ZO, ZF, ZM, ZI, ZK, ZB, ZC, ZJ, ZP, ZQ, ZX, ↓ZH, ZN, ZG, ZU, Zp, Zm, Yg, ZS, Yq, put, lk, Od.v, Za, ZE, ZA, YB, Ym, Yn, Yo, unx, YE, DV.isU, DV.cells, hget, Yb, Yj, Yd, ZL, splice, DV.one, Ye, mat, Yi, YD]; exact ⟨rfl, rfl⟩)] | rw [Zw (by simp [lk, Za, Od.v]; exact rfl)] | rw [Zx]))
    simp only [Zr, ZY, lk, Za, List.map_cons, List.map_nil, reduceIte, Option.map_some, Nat.reduceEqDiff, hf]
end Go.Proofs.YtojhkbbnkhfnhaaGreatDoor
namespace Go.Proofs.YtojhkbbnkhfnhaaGreatDoor
attribute [local go_sem] Ya ZT ZV ZW ZO ZF ZM ZI ZK ZB ZC ZJ ZP ZQ ZX ZN ZG ZU Zp Zm Yg ZS Yq put lk Od.v Za ZE ZA YB Ym Yn Yo unx YE DV.isU DV.cells hget Yb Yj Yd ZL splice Ye mat Yi YD one_bool one_int one_str one_nilp one_ref one_elem one_nils one_list one_row one_nilm one_map one_nilf one_func one_nili one_ifc one_agg one_tup one_undef one_fresh
attribute [local go_sem ↓] ZH
set_option linter.unusedVariables false
set_option linter.unusedSimpArgs false
set_option maxRecDepth 10000
/-- The numbers that were seen. -/
def addN (sn : List Nat) (p : Nat) : List Nat := if p ∈ sn then sn else sn ++ [p]
def esN (sn : List Nat) : List (DV × DV) := sn.map fun p => (iD p, DV.bool true)
theorem keqN (p q : Nat) : keq false [1] (iD p) (iD q) = some (decide (p = q)) := by
  simp [keq, YD]
  by_cases h : p = q
  · subst h; simp
  · have : ¬ (p : Int) = (q : Int) := by omega
    simp [h, this]
theorem mputN (p : Nat) : ∀ sn : List Nat, mput false [1] (iD p) (.bool true) (esN sn) = some (esN (addN sn p))
  | [] => rfl
  | q :: sn => by
    have ih := mputN p sn
    unfold esN at ih ⊢
    simp only [List.map_cons, mput, keqN]
    by_cases h : p = q
    · subst h
      simp [addN]
    · simp only [h, decide_false]
      rw [ih]
      unfold addN
      by_cases h2 : p ∈ sn
      · simp [h, h2]
      · simp [h, h2]
def Ys (il : List Nat) : List Nat := il.foldl addN []
theorem seenN_snoc (il : List Nat) (p : Nat) : Ys (il ++ [p]) = addN (Ys il) p := by simp [Ys, List.foldl_append]
theorem addN_mem (sn : List Nat) (p x : Nat) : x ∈ addN sn p ↔ x ∈ sn ∨ x = p := by
  unfold addN
  split
  · rename_i h
    constructor
    · exact .inl
    · rintro (h1 | rfl)
      · exact h1
      · exact h
  · simp
theorem foldN (il : List Nat) : ∀ sn : List Nat, sn.Nodup → (il.foldl addN sn).Nodup ∧ ∀ x, x ∈ il.foldl addN sn ↔ x ∈ sn ∨ x ∈ il := by
  induction il with
  | nil => intro sn h; exact ⟨h, fun x => by simp⟩
  | cons p il ih =>
    intro sn h
    have h2 : (addN sn p).Nodup := by
      unfold addN
      split
      · exact h
      · rename_i hp
        rw [List.nodup_append]
        refine ⟨h, by simp, fun a ha b hb => ?_⟩
        simp at hb; subst hb
        rintro rfl
        exact hp ha
    obtain ⟨q1, q2⟩ := ih (addN sn p) h2
    refine ⟨q1, fun x => ?_⟩
    rw [List.foldl_cons, q2, addN_mem, List.mem_cons, or_assoc]
theorem seenN_len {il : List Nat} {m : Nat} (h : ∀ p, p ∈ il ↔ p < m) : (Ys il).length = m := by
  obtain ⟨h1, h2⟩ := foldN il [] List.nodup_nil
  have hp : (Ys il).Perm (List.range m) := (List.perm_ext_iff_of_nodup h1 List.nodup_range).2 (fun a => by
    rw [h2, List.mem_range, ← h]; simp)
  have := hp.length_eq
  simpa using this
/-- What ids makes. -/
def ih_ (H : ZD) (n : Int) (D B : DV) (sn : List Nat) : ZD := H ++ [.box 61 [.int .i64 n, D, B], .map 0 0 (esN sn)]
theorem loop64 {H : ZD} {n : Nat} {D B R : DV} {ys : List V} {il : List Nat} (hD : ∀ g, vw g 4 D = some (ys.map V.d)) (hR : ∀ g, vw g 1 R = some (il.map iD)) (hn : il.length = n) (hb : n ≤ 4096) (hl : ∀ p ∈ il, p < ys.length) (hyb : ys.length ≤ 1000) :
    ∀ (k i : Nat), n - i ≤ k → i ≤ n → ∃ y ex, C X (.loop lp64_0) [(1, .ref H.length 0), (4, R), (5, .int .i64 0), (6, .map (H.length + 1)), (36, R), (37, .int .i64 n), (38, .int .i64 i)] (ih_ H n D B (Ys (il.take i))) = some (.exit 0, (1, .ref H.length 0) :: (4, R) :: (5, .int .i64 0) :: (6, .map (H.length + 1)) :: (36, R) :: (37, .int .i64 n) :: (38, y) :: ex, ih_ H n D B (Ys il)) := by
  intro k
  induction k with
  | zero =>
    intro i hk hi
    obtain rfl : i = n := by omega
    rw [← hn, List.take_length, hn]
    refine ⟨.int .i64 i, [(39, .bool false)], ?_⟩
    generalize ih_ H i D B (Ys il) = P
    rw [Yh]
    unfold lp64_0
    (repeat (first | rw [Zj] | rw [Zc (by simp [go_sem]; exact ⟨rfl, rfl⟩)] | rw [Zv (by simp [lk, Za, Od.v]; exact rfl)] | rw [Zp] | rw [Zm] | rw [Zl] | rw [Zy] | rw [Zq] | rw [Zt] | rw [Zo] | rw [Zn] | rw [Zk] | rw [Zg] | rw [Zh] | rw [Zd (by decide)] | rw [Zi] | rw [Ze] | rw [Zf] | rw [Zb (by decide)] | rw [Zz] | rw [Zu (by simp [go_sem]; exact ⟨rfl, rfl⟩)] | rw [Zw (by simp [lk, Za, Od.v]; exact rfl)] | rw [Zx]))
    rw [Yx]
    simp [Za, lk]
  | succ k ih =>
    intro i hk hi
    by_cases c : i < n
    · obtain ⟨I, hI⟩ : ∃ I, I = i + 1 := ⟨_, rfl⟩
      have z1 : IntKind.i64.wrap ((i : Int) + 1) = (I : Int) := (by rw [wrap64 _ (by omega) (by omega)]; omega)
      have c' : i < il.length := by omega
      have hp := hl _ (List.getElem_mem c')
      have hsn : Ys (il.take I) = addN (Ys (il.take i)) il[i] := by rw [hI, ← List.take_append_getElem c', seenN_snoc]
      have hm := mputN il[i] (Ys (il.take i))
      rw [← hsn] at hm
      obtain ⟨p, hpp⟩ : ∃ p, p = il[i] := ⟨_, rfl⟩
      rw [← hpp] at hp hm
      have hpp' := hpp.symm
      obtain ⟨y, ex, hc⟩ := ih I (by omega) (by omega)
      refine ⟨y, ex, ?_⟩
      have f1 : (ih_ H n D B (Ys (il.take i)))[H.length]? = some (.box 61 [.int .i64 n, D, B]) := by simp [ih_]
      have f2 : (ih_ H n D B (Ys (il.take i)))[H.length + 1]? = some (.map 0 0 (esN (Ys (il.take i)))) := by simp [ih_, hget]
      have f3 : (ih_ H n D B (Ys (il.take i))).set (H.length + 1) (.map 0 0 (esN (Ys (il.take I)))) = ih_ H n D B (Ys (il.take I)) := by simp [ih_, Yj]
      have d1 : ¬ (ys.length : Int) ≤ (p : Int) := by omega
      have d2 : ¬ ys.length ≤ p := by omega
      have hk1 : keq false [1] (.int .i64 (p : Int)) (.int .i64 (p : Int)) = some true := by have := keqN p p; simpa using this
      have hm : mput false [1] (.int .i64 (p : Int)) (.bool true) (esN (Ys (il.take i))) = some (esN (Ys (il.take I))) := hm
      have hs : C X lp64_0 [(1, .ref H.length 0), (4, R), (5, .int .i64 0), (6, .map (H.length + 1)), (36, R), (37, .int .i64 n), (38, .int .i64 i)] (ih_ H n D B (Ys (il.take i))) = some (.norm, [(1, .ref H.length 0), (4, R), (5, .int .i64 0), (6, .map (H.length + 1)), (36, R), (37, .int .i64 n), (38, .int .i64 I)], ih_ H n D B (Ys (il.take I))) := by
        clear ih hc hl hsn
        generalize ih_ H n D B (Ys (il.take I)) = P2 at *
        generalize ih_ H n D B (Ys (il.take i)) = P1 at *
        unfold lp64_0
        (repeat (first | rw [Zj] | rw [Zc (by simp [go_sem, c, c', z1, hR, hD, hpp', f1, f2, f3, d1, d2, hk1, hm, ZR]; exact ⟨rfl, rfl⟩)] | rw [Zv (by simp [lk, Za, Od.v, c, c', z1, hR, hD, hpp', f1, f2, f3, d1, d2, hk1, hm, ZR]; exact rfl)] | rw [Zp] | rw [Zm] | rw [Zl] | rw [Zy] | rw [Zq] | rw [Zt] | rw [Zo] | rw [Zn] | rw [Zk] | rw [Zg] | rw [Zh] | rw [Zd (by decide)] | rw [Zi] | rw [Ze] | rw [Zf] | rw [Zb (by decide)] | rw [Zz] | rw [Zu (by simp [go_sem, c, c', z1, hR, hD, hpp', f1, f2, f3, d1, d2, hk1, hm, ZR]; exact ⟨rfl, rfl⟩)] | rw [Zw (by simp [lk, Za, Od.v, c, c', z1, hR, hD, hpp', f1, f2, f3, d1, d2, hk1, hm, ZR]; exact rfl)] | rw [Zx]))
        simp [Za, lk]
      rw [Yh, hs, Yw]
      exact hc
    · exact ih i (by omega) hi
set_option maxHeartbeats 1000000 in
theorem run64 {H : ZD} {n : Nat} {D B : DV} {ys : List V} {il : List Nat} (hD : ValL D ys) (hU : Up ys) (hmay : ∀ x ∈ ys, mayV x = true) (hyb : ys.length ≤ 256) (hB : BytesL B (pack il (wC ys.length))) (hn : il.length = n) (hb : n ≤ 4096) (hl : ∀ p, p ∈ il ↔ p < ys.length) :
    ∃ R, E X 64 [colD n D B] H = some (.tup [R, .bool true], H) ∧ ((R = .nils ∧ il = []) ∨ R = .list 1 (il.map iD) false) := by
  have hwl : wC ys.length ≤ 62 := by
    have h1 := wN_mono (ys.length - 1) 255 (by omega)
    have h2 : wN 255 = 8 := by decide
    unfold wC; omega
  have e111 := fun g => run109 (h := g) (A := D) (fun l => hD.vw _) (by omega)
  rw [up_ris ys none hU hmay] at e111
  have e62 := fun g => run80 ys.length hyb g
  obtain ⟨R, e112, hR⟩ := run110 (H := H ++ [.box 61 [.int .i64 n, D, B]]) hB hwl hn hb (fun p hp => wN_mono _ _ (by have := (hl p).1 hp; omega))
  have hRv : ∀ g, vw g 1 R = some (il.map iD) := fun g => by rcases hR with ⟨rfl, rfl⟩ | rfl <;> rfl
  refine ⟨R, ?_, hR⟩
  obtain ⟨y, ex, hc⟩ := loop64 (H := H) (n := n) (D := D) (B := B) (R := R) hD.vw hRv hn hb (fun p hp => (hl p).1 hp) (by omega) n 0 (by omega) (by omega)
  have hi0 : ih_ H n D B (Ys (il.take 0)) = H ++ [.box 61 [.int .i64 n, D, B], .map 0 0 []] := rfl
  rw [hi0, show ((0 : Nat) : Int) = 0 from rfl] at hc
  have f1 : (ih_ H n D B (Ys il))[H.length]? = some (.box 61 [.int .i64 n, D, B]) := by simp [ih_]
  have f2 : (ih_ H n D B (Ys il))[H.length + 1]? = some (.map 0 0 (esN (Ys il))) := by simp [ih_, hget]
  have f3 : (esN (Ys il)).length = ys.length := by rw [esN, List.length_map, seenN_len hl]
  have f4 : (ih_ H n D B (Ys il)).take H.length = H := by simp [ih_]
  have hDv := hD.vw
  have d1 : ¬ (4096 : Int) < (n : Int) := by omega
  have d2 : ¬ 4096 < n := by omega
  have d3 : ¬ (n : Int) < 0 := by omega
  have hfin : fin H (ih_ H n D B (Ys il)) [R, .bool true] = (.tup [R, .bool true], H) := by
    simp only [fin]
    rw [if_pos f4]
    rcases hR with ⟨rfl, _⟩ | rfl <;> rfl
  generalize ih_ H n D B (Ys il) = P at *
  generalize esN (Ys il) = es at *
  generalize wC ys.length = w at *
  rw [Yc (X := X) _ b64 _ rfl rfl]; unfold b64
  (repeat (first | rw [Zj] | rw [Zc (by simp [go_sem, e111, hDv, e62, e112, d1, d2, d3, hRv, hn, hintOk]; exact ⟨rfl, rfl⟩)] | rw [Zv (by simp [lk, Za, Od.v, e111, hDv, e62, e112, d1, d2, d3, hRv, hn, hintOk]; exact rfl)] | rw [Zp] | rw [Zm] | rw [Zl] | rw [Zy] | rw [Zq] | rw [Zt] | rw [Zo] | rw [Zn] | rw [Zk] | rw [Zg] | rw [Zh] | rw [Zd (by decide)] | rw [Zi] | rw [Ze] | rw [Zf] | rw [Zb (by decide)] | rw [Zz] | rw [Zu (by simp [go_sem, e111, hDv, e62, e112, d1, d2, d3, hRv, hn, hintOk]; exact ⟨rfl, rfl⟩)] | rw [Zw (by simp [lk, Za, Od.v, e111, hDv, e62, e112, d1, d2, d3, hRv, hn, hintOk]; exact rfl)] | rw [Zx]))
  (try simp only [Za, List.map_cons, List.map_nil, lk, reduceIte, Nat.reduceEqDiff, Nat.zero_ne_one, Nat.one_ne_zero])
  rw [hc]
  (repeat (first | rw [Zj] | rw [Zc (by simp [go_sem, f1, f2, f3, hDv]; exact ⟨rfl, rfl⟩)] | rw [Zv (by simp [lk, Za, Od.v, f1, f2, f3, hDv]; exact rfl)] | rw [Zp] | rw [Zm] | rw [Zl] | rw [Zy] | rw [Zq] | rw [Zt] | rw [Zo] | rw [Zn] | rw [Zk] | rw [Zg] | rw [Zh] | rw [Zd (by decide)] | rw [Zi] | rw [Ze] | rw [Zf] | rw [Zb (by decide)] | rw [Zz] | rw [Zu (by simp [go_sem, f1, f2, f3, hDv]; exact ⟨rfl, rfl⟩)] | rw [Zw (by simp [lk, Za, Od.v, f1, f2, f3, hDv]; exact rfl)] | rw [Zx]))
  simp only [Zr, ZY, lk, Za, List.map_cons, List.map_nil, reduceIte, Option.map_some, Nat.reduceEqDiff, hfin]
/-- A column that was built. -/
structure ColOk (n : Nat) (D B : DV) (ys : List V) (il : List Nat) : Prop where
  dict : ValL D ys
  up : Up ys
  may : ∀ x ∈ ys, mayV x = true
  yb : ys.length ≤ 256
  bytes : BytesL B (pack il (wC ys.length))
  len : il.length = n
  nb : n ≤ 4096
  mem : ∀ p, p ∈ il ↔ p < ys.length
theorem run64c {n : Nat} {D B : DV} {ys : List V} {il : List Nat} (hC : ColOk n D B ys il) (H : ZD) : ∃ R, E X 64 [colD n D B] H = some (.tup [R, .bool true], H) ∧ ∀ g, vw g 1 R = some (il.map iD) := by
  obtain ⟨R, h1, h2⟩ := run64 (H := H) hC.dict hC.up hC.may hC.yb hC.bytes hC.len hC.nb hC.mem
  exact ⟨R, h1, fun g => by rcases h2 with ⟨rfl, rfl⟩ | rfl <;> rfl⟩
theorem run38 {n : Nat} {D B : DV} {ys : List V} {il : List Nat} (hC : ColOk n D B ys il) (H : ZD) : E X 38 [colD n D B] H = some (.bool true, H) := by
  obtain ⟨R, e74, _⟩ := run64c hC (H ++ [.box 61 [.int .i64 n, D, B]])
  rw [Yc (X := X) _ b38 _ rfl rfl]; unfold b38; (repeat (first | rw [Zj] | rw [Zc (by simp [go_sem, e74]; exact ⟨rfl, rfl⟩)] | rw [Zv (by simp [lk, Za, Od.v, e74]; exact rfl)] | rw [Zp] | rw [Zm] | rw [Zl] | rw [Zy] | rw [Zq] | rw [Zt] | rw [Zo] | rw [Zn] | rw [Zk] | rw [Zg] | rw [Zh] | rw [Zd (by decide)] | rw [Zi] | rw [Ze] | rw [Zf] | rw [Zb (by decide)] | rw [Zz] | rw [Zu (by simp [go_sem, e74]; exact ⟨rfl, rfl⟩)] | rw [Zw (by simp [lk, Za, Od.v, e74]; exact rfl)] | rw [Zx])); simp [Zr, Zs, ZY, go_sem, fin, Yu, Yt, YA, Yy, YC, e74]
def rowsN (hold : Nat → Bool) (il : List Nat) (i : Nat) : List Nat := (List.range i).filter fun j => hold (il.getD j 0)
theorem rowsN_succ (hold : Nat → Bool) (il : List Nat) (i : Nat) (h : i < il.length) : rowsN hold il (i + 1) = if hold il[i] = true then rowsN hold il i ++ [i] else rowsN hold il i := by
  have e : il.getD i 0 = il[i] := by rw [List.getD_eq_getElem?_getD, List.getElem?_eq_getElem h]; rfl
  rw [rowsN, List.range_succ, List.filter_append, List.filter_cons, e]
  split <;> simp [rowsN]
theorem rowsN_len (hold : Nat → Bool) (il : List Nat) (i : Nat) : (rowsN hold il i).length ≤ i := by
  have := List.length_filter_le (fun j => hold (il.getD j 0)) (List.range i)
  simpa [rowsN] using this
theorem loop116 {H Hs : ZD} {R T : DV} {il : List Nat} {n f : Nat} {cap : List DV} {hold : Nat → Bool} (hR : ∀ g, vw g 1 R = some (il.map iD)) (hn : il.length = n) (hb : n ≤ 4096) (hF : ∀ G p, E X f (.int .i64 (p : Nat) :: cap) (H ++ G) = some (.bool (hold p), H ++ G)) (hHs : Hs.take H.length = H) :
    ∀ (k i : Nat) (o : DV) (h : ZD), n - i ≤ k → i ≤ n → Grow 3 iD Hs h o (rowsN hold il i) → ∃ y ex o' h', C X (.loop lp116_0) [(1, .func f [] cap), (4, T), (6, .bool true), (7, o), (15, R), (16, .int .i64 n), (17, .int .i64 i)] h = some (.exit 0, (1, .func f [] cap) :: (4, T) :: (6, .bool true) :: (7, o') :: (15, R) :: (16, .int .i64 n) :: (17, y) :: ex, h') ∧ Grow 3 iD Hs h' o' (rowsN hold il n) := by
  intro k
  induction k with
  | zero =>
    intro i o h hk hi hG
    obtain rfl : i = n := by omega
    refine ⟨.int .i64 i, [(18, .bool false)], o, h, ?_, hG⟩
    rw [Yh]
    unfold lp116_0
    (repeat (first | rw [Zj] | rw [Zc (by simp [go_sem]; exact ⟨rfl, rfl⟩)] | rw [Zv (by simp [lk, Za, Od.v]; exact rfl)] | rw [Zp] | rw [Zm] | rw [Zl] | rw [Zy] | rw [Zq] | rw [Zt] | rw [Zo] | rw [Zn] | rw [Zk] | rw [Zg] | rw [Zh] | rw [Zd (by decide)] | rw [Zi] | rw [Ze] | rw [Zf] | rw [Zb (by decide)] | rw [Zz] | rw [Zu (by simp [go_sem]; exact ⟨rfl, rfl⟩)] | rw [Zw (by simp [lk, Za, Od.v]; exact rfl)] | rw [Zx]))
    rw [Yx]
    simp [Za, lk]
  | succ k ih =>
    intro i o h hk hi hG
    by_cases c : i < n
    · obtain ⟨I, hI⟩ : ∃ I, I = i + 1 := ⟨_, rfl⟩
      have z1 : IntKind.i64.wrap ((i : Int) + 1) = (I : Int) := (by rw [wrap64 _ (by omega) (by omega)]; omega)
      have c' : i < il.length := by omega
      have hrs := rowsN_succ hold il i c'
      rw [← hI] at hrs
      obtain ⟨p, hpp⟩ : ∃ p, p = il[i] := ⟨_, rfl⟩
      have hpp' := hpp.symm
      rw [← hpp] at hrs
      have hpre : h.take H.length = H := by
        have t1 := take_le hHs
        have : h.take H.length = (h.take Hs.length).take H.length := by rw [List.take_take, Nat.min_eq_left t1]
        rw [this, hG.1, hHs]
      have e := hF (h.drop H.length) p
      have hsp : H ++ h.drop H.length = h := by
        have := List.take_append_drop H.length h
        rw [hpre] at this; exact this
      rw [hsp] at e
      have hw0 := hG.vw0
      cases hh : hold p
      · rw [hh] at hrs e
        have hG' : Grow 3 iD Hs h o (rowsN hold il I) := by rw [hrs]; exact hG
        have hs : C X lp116_0 [(1, .func f [] cap), (4, T), (6, .bool true), (7, o), (15, R), (16, .int .i64 n), (17, .int .i64 i)] h = some (.norm, [(1, .func f [] cap), (4, T), (6, .bool true), (7, o), (15, R), (16, .int .i64 n), (17, .int .i64 I)], h) := by
          clear ih hG hG' hrs hF
          unfold lp116_0
          (repeat (first | rw [Zj] | rw [Zc (by simp [go_sem, c, c', z1, hR, hpp', ZR, e]; exact ⟨rfl, rfl⟩)] | rw [Zv (by simp [lk, Za, Od.v, c, c', z1, hR, hpp', ZR, e]; exact rfl)] | rw [Zp] | rw [Zm] | rw [Zl] | rw [Zy] | rw [Zq] | rw [Zt] | rw [Zo] | rw [Zn] | rw [Zk] | rw [Zg] | rw [Zh] | rw [Zd (by decide)] | rw [Zi] | rw [Ze] | rw [Zf] | rw [Zb (by decide)] | rw [Zz] | rw [Zu (by simp [go_sem, c, c', z1, hR, hpp', ZR, e]; exact ⟨rfl, rfl⟩)] | rw [Zw (by simp [lk, Za, Od.v, c, c', z1, hR, hpp', ZR, e]; exact rfl)] | rw [Zx]))
          simp [Za, lk]
        rw [Yh, hs, Yw]
        exact ih I o h (by omega) (by omega) hG'
      · rw [hh] at hrs e
        have hln := rowsN_len hold il i
        obtain ⟨o2, h2, ha, hG2⟩ := hG.app 8 [i] (by simp; omega)
        have hG' : Grow 3 iD Hs h2 o2 (rowsN hold il I) := by rw [hrs]; exact hG2
        have hs : C X lp116_0 [(1, .func f [] cap), (4, T), (6, .bool true), (7, o), (15, R), (16, .int .i64 n), (17, .int .i64 i)] h = some (.norm, [(1, .func f [] cap), (4, T), (6, .bool true), (7, o2), (15, R), (16, .int .i64 n), (17, .int .i64 I)], h2) := by
          have y1 : ∀ (a : Int) h, eltL [.int .i64 a] h = some ([.int .i64 a], h) := fun _ _ => rfl
          have y2 : ∀ a, Wc 1 (.int .i64 a) := fun a => by simp [Wc, DV.cells, DV.one]
          have y3 : ∀ a, Nr (.int .i64 a) := fun a => .int _ _
          have y4 : ∀ (a : Int) h, srcOf h 1 (.list 1 [.int .i64 a] true) = some [.int .i64 a] := fun _ _ => rfl
          generalize rowsN hold il i = cur at *
          have ha : appx h 3 1 8 o (cur.map iD) [.int .i64 i] = some (o2, h2) := ha
          clear ih hG hG' hG2 hrs hF
          unfold lp116_0
          (repeat (first | rw [Zj] | rw [Zc (by simp [go_sem, c, c', z1, hR, hpp', ZR, e, hw0, ha, y1, y2, y3, y4]; exact ⟨rfl, rfl⟩)] | rw [Zv (by simp [lk, Za, Od.v, c, c', z1, hR, hpp', ZR, e, hw0, ha, y1, y2, y3, y4]; exact rfl)] | rw [Zp] | rw [Zm] | rw [Zl] | rw [Zy] | rw [Zq] | rw [Zt] | rw [Zo] | rw [Zn] | rw [Zk] | rw [Zg] | rw [Zh] | rw [Zd (by decide)] | rw [Zi] | rw [Ze] | rw [Zf] | rw [Zb (by decide)] | rw [Zz] | rw [Zu (by simp [go_sem, c, c', z1, hR, hpp', ZR, e, hw0, ha, y1, y2, y3, y4]; exact ⟨rfl, rfl⟩)] | rw [Zw (by simp [lk, Za, Od.v, c, c', z1, hR, hpp', ZR, e, hw0, ha, y1, y2, y3, y4]; exact rfl)] | rw [Zx]))
          simp [Za, lk]
        rw [Yh, hs, Yw]
        exact ih I o2 h2 (by omega) (by omega) hG'
    · exact ih i o h (by omega) hi hG
theorem run116 {H : ZD} {n f : Nat} {D B : DV} {ys : List V} {il : List Nat} {cap : List DV} {hold : Nat → Bool} (hC : ColOk n D B ys il) (hF : ∀ G p, E X f (.int .i64 (p : Nat) :: cap) (H ++ G) = some (.bool (hold p), H ++ G)) :
    ∃ W, E X 116 [colD n D B, .func f [] cap] H = some (.agg [W], H) ∧ WL W (ofW (rowsN hold il n)) := by
  obtain ⟨Hs, hHs⟩ : ∃ Hs, Hs = H ++ [HO.box 61 [.int .i64 n, D, B], .box 38 [.nils]] := ⟨_, rfl⟩
  obtain ⟨R, e74, hR⟩ := run64c hC Hs
  obtain ⟨y, ex, o, h2, hc, hG⟩ := loop116 (Hs := Hs) (T := .ref (H.length + 1) 0) hR hC.len hC.nb hF (by rw [hHs]; simp) n 0 .nils Hs (by omega) (by omega) Grow.zero
  rw [show ((0 : Nat) : Int) = 0 from rfl] at hc
  have hnb := hC.nb
  have hln := rowsN_len hold il n
  obtain ⟨W, e11, hW⟩ := run76 (A := o) (l := rowsN hold il n) (H := h2) hG.vw (fun x hx => by
    have := (List.mem_filter.1 hx).1
    rw [List.mem_range] at this; omega) (by omega)
  refine ⟨W, ?_, hW⟩
  have hlen := take_le hG.1
  have hHl : Hs.length = H.length + 2 := by rw [hHs]; simp
  have f1 : h2[H.length + 1]? = some (.box 38 [.nils]) := by rw [take_getH hG.1 (by omega), hHs]; simp [hget]
  have hone : W.one = true := by rcases hW with rfl | ⟨rfl, _⟩ <;> rfl
  have hfin : fin H (h2.set (H.length + 1) (.box 38 [W])) [.agg [W]] = (.agg [W], H) := by
    refine fin_wl hW (take_eq (by simp; omega) (fun i hi => ?_))
    rw [List.getElem?_set_ne (by omega), take_getH hG.1 (by omega), hHs, List.getElem?_append_left hi]
  have f2 : (h2.set (H.length + 1) (.box 38 [W]))[H.length + 1]? = some (.box 38 [W]) := List.getElem?_set_self (by omega)
  generalize hh3 : h2.set (H.length + 1) (.box 38 [W]) = h3 at hfin f2
  subst hHs
  have hlen' := hC.len
  clear hG hW hF
  rw [Yc (X := X) _ b116 _ rfl rfl]; unfold b116
  (repeat (first | rw [Zj] | rw [Zc (by simp [go_sem, e74, hR, hlen']; exact ⟨rfl, rfl⟩)] | rw [Zv (by simp [lk, Za, Od.v, e74, hR, hlen']; exact rfl)] | rw [Zp] | rw [Zm] | rw [Zl] | rw [Zy] | rw [Zq] | rw [Zt] | rw [Zo] | rw [Zn] | rw [Zk] | rw [Zg] | rw [Zh] | rw [Zd (by decide)] | rw [Zi] | rw [Ze] | rw [Zf] | rw [Zb (by decide)] | rw [Zz] | rw [Zu (by simp [go_sem, e74, hR, hlen']; exact ⟨rfl, rfl⟩)] | rw [Zw (by simp [lk, Za, Od.v, e74, hR, hlen']; exact rfl)] | rw [Zx]))
  (try simp only [Za, List.map_cons, List.map_nil, lk, reduceIte, Nat.reduceEqDiff, Nat.zero_ne_one, Nat.one_ne_zero])
  rw [hc]
  (repeat (first | rw [Zj] | rw [Zc (by simp [go_sem, e11, f1, hone, hh3]; exact ⟨rfl, rfl⟩)] | rw [Zv (by simp [lk, Za, Od.v, e11, f1, hone, hh3]; exact rfl)] | rw [Zp] | rw [Zm] | rw [Zl] | rw [Zy] | rw [Zq] | rw [Zt] | rw [Zo] | rw [Zn] | rw [Zk] | rw [Zg] | rw [Zh] | rw [Zd (by decide)] | rw [Zi] | rw [Ze] | rw [Zf] | rw [Zb (by decide)] | rw [Zz] | rw [Zu (by simp [go_sem, e11, f1, hone, hh3]; exact ⟨rfl, rfl⟩)] | rw [Zw (by simp [lk, Za, Od.v, e11, f1, hone, hh3]; exact rfl)] | rw [Zx]))
  simp only [Zr, ZY, lk, Za, List.map_cons, List.map_nil, reduceIte, Option.map_some, Nat.reduceEqDiff]
  rw [ZA, f2]
  exact congrArg some hfin
theorem run117 {H : ZD} {a b : Nat} {lo hi : Int} (ha : H[a]? = some (.box 3 [.int .i64 lo])) (hb : H[b]? = some (.box 3 [.int .i64 hi])) (p : Nat) : E X 117 [.int .i64 p, .ref a 0, .ref b 0] H = some (.bool (decide (lo ≤ (p : Int)) && decide ((p : Int) < hi)), H) := by
  by_cases c : lo ≤ (p : Int)
  · rw [Yc (X := X) _ b117 _ rfl rfl]; unfold b117; (repeat (first | rw [Zj] | rw [Zc (by simp [go_sem, ha, hb, c]; exact ⟨rfl, rfl⟩)] | rw [Zv (by simp [lk, Za, Od.v, ha, hb, c]; exact rfl)] | rw [Zp] | rw [Zm] | rw [Zl] | rw [Zy] | rw [Zq] | rw [Zt] | rw [Zo] | rw [Zn] | rw [Zk] | rw [Zg] | rw [Zh] | rw [Zd (by decide)] | rw [Zi] | rw [Ze] | rw [Zf] | rw [Zb (by decide)] | rw [Zz] | rw [Zu (by simp [go_sem, ha, hb, c]; exact ⟨rfl, rfl⟩)] | rw [Zw (by simp [lk, Za, Od.v, ha, hb, c]; exact rfl)] | rw [Zx])); simp [Zr, Zs, ZY, go_sem, fin, Yu, Yt, YA, Yy, YC, ha, hb, c]
  · rw [Yc (X := X) _ b117 _ rfl rfl]; unfold b117; (repeat (first | rw [Zj] | rw [Zc (by simp [go_sem, ha, hb, c]; exact ⟨rfl, rfl⟩)] | rw [Zv (by simp [lk, Za, Od.v, ha, hb, c]; exact rfl)] | rw [Zp] | rw [Zm] | rw [Zl] | rw [Zy] | rw [Zq] | rw [Zt] | rw [Zo] | rw [Zn] | rw [Zk] | rw [Zg] | rw [Zh] | rw [Zd (by decide)] | rw [Zi] | rw [Ze] | rw [Zf] | rw [Zb (by decide)] | rw [Zz] | rw [Zu (by simp [go_sem, ha, hb, c]; exact ⟨rfl, rfl⟩)] | rw [Zw (by simp [lk, Za, Od.v, ha, hb, c]; exact rfl)] | rw [Zx])); simp [Zr, Zs, ZY, go_sem, fin, Yu, Yt, YA, Yy, YC, ha, hb, c]
theorem run71 {H : ZD} {n : Nat} {D B : DV} {ys : List V} {il : List Nat} (hC : ColOk n D B ys il) (lo hi : Int) :
    ∃ W, E X 71 [colD n D B, .int .i64 lo, .int .i64 hi] H = some (.agg [W], H) ∧ WL W (ofW (rowsN (fun p => decide (lo ≤ (p : Int)) && decide ((p : Int) < hi)) il n)) := by
  obtain ⟨Hs, hHs⟩ : ∃ Hs, Hs = H ++ [HO.box 61 [.int .i64 n, D, B], .box 3 [.int .i64 lo], .box 3 [.int .i64 hi], .box 38 [.nils]] := ⟨_, rfl⟩
  obtain ⟨W, e69, hW⟩ := run116 (H := Hs) (f := 117) (cap := [.ref (H.length + 1) 0, .ref (H.length + 2) 0]) hC (hold := fun p => decide (lo ≤ (p : Int)) && decide ((p : Int) < hi)) (fun G p => run117 (by subst hHs; rw [List.getElem?_append_left (by simp)]; simp [hget]) (by subst hHs; rw [List.getElem?_append_left (by simp)]; simp [hget]) p)
  refine ⟨W, ?_, hW⟩
  subst hHs
  have hone : W.one = true := by rcases hW with rfl | ⟨rfl, _⟩ <;> rfl
  have hfin : fin H (H ++ [HO.box 61 [.int .i64 n, D, B], .box 3 [.int .i64 lo], .box 3 [.int .i64 hi], .box 38 [W]]) [.agg [W]] = (.agg [W], H) := fin_wl hW (by simp)
  have f2 : (H ++ [HO.box 61 [.int .i64 n, D, B], .box 3 [.int .i64 lo], .box 3 [.int .i64 hi], .box 38 [W]])[H.length + 3]? = some (.box 38 [W]) := by simp [hget]
  rw [Yc (X := X) _ b71 _ rfl rfl]; unfold b71
  (repeat (first | rw [Zj] | rw [Zc (by simp [go_sem, e69, hone]; exact ⟨rfl, rfl⟩)] | rw [Zv (by simp [lk, Za, Od.v, e69, hone]; exact rfl)] | rw [Zp] | rw [Zm] | rw [Zl] | rw [Zy] | rw [Zq] | rw [Zt] | rw [Zo] | rw [Zn] | rw [Zk] | rw [Zg] | rw [Zh] | rw [Zd (by decide)] | rw [Zi] | rw [Ze] | rw [Zf] | rw [Zb (by decide)] | rw [Zz] | rw [Zu (by simp [go_sem, e69, hone]; exact ⟨rfl, rfl⟩)] | rw [Zw (by simp [lk, Za, Od.v, e69, hone]; exact rfl)] | rw [Zx]))
  simp only [Zr, ZY, lk, Za, List.map_cons, List.map_nil, reduceIte, Option.map_some, Nat.reduceEqDiff]
  rw [ZA, f2]
  exact congrArg some hfin
theorem wN_lt : ∀ (w n : Nat), n < 2 ^ w → wN n ≤ w
  | 0, n, h => by
    have : n = 0 := by simpa using h
    subst this
    exact Nat.le_refl _
  | w + 1, n, h => by
    rcases Nat.eq_zero_or_pos n with rfl | hp
    · rw [wN_zero]; omega
    · rw [wN_half n hp]
      have := wN_lt w (n / 2) (by rw [Nat.pow_succ] at h; omega)
      omega
def idsN (bs : List Nat) (w n : Nat) : List Nat := (List.range n).map fun i => numB bs w i w
theorem idsN_len (bs : List Nat) (w n : Nat) : (idsN bs w n).length = n := by simp [idsN]
theorem idsN_wN {bs : List Nat} {w n : Nat} : ∀ p ∈ idsN bs w n, wN p ≤ w := by
  intro p hp
  unfold idsN at hp
  obtain ⟨i, _, rfl⟩ := List.mem_map.1 hp
  exact wN_lt _ _ (numB_lt bs w i w)
/-- Just as many bytes as so many numbers need, the bits behind them 0. -/
def padOk (bs : List Nat) (w n : Nat) : Prop := bs.length = (n * w + 7) / 8 ∧ (0 < n * w % 8 → bs.getD (bs.length - 1) 0 / 2 ^ (n * w % 8) = 0)
theorem idsN_pack {bs : List Nat} {w n : Nat} (bb : BB bs) (h : padOk bs w n) : pack (idsN bs w n) w = bs := by
  apply bytes_ext
  · rw [pack_len, idsN_len, h.1]
  · exact pack_BB _ _
  · exact bb
  intro q
  rw [pack_bit, idsN_len]
  by_cases c : q < n * w
  · have hw : 0 < w := by
      rcases Nat.eq_zero_or_pos w with rfl | h
      · simp at c
      · exact h
    have hi : q / w < n := by rw [Nat.div_lt_iff_lt_mul hw]; exact c
    have e : (idsN bs w n).getD (q / w) 0 = numB bs w (q / w) w := by
      unfold idsN
      rw [List.getD_eq_getElem?_getD]
      simp [hi]
    rw [e, numB_bit]
    have h1 : q % w < w := Nat.mod_lt _ hw
    have e2 : q / w * w + q % w = q := by rw [Nat.mul_comm]; exact Nat.div_add_mod q w
    simp [c, h1, e2]
  · have : bitB bs q = false := by
      unfold bitB
      obtain ⟨ha, hb⟩ := h
      generalize n * w = P at *
      by_cases c2 : q / 8 < bs.length
      · have hr : 0 < P % 8 := by omega
        have h2 := hb hr
        have hq : q / 8 = bs.length - 1 := by omega
        rw [hq]
        have hlt : bs.getD (bs.length - 1) 0 < 2 ^ (P % 8) := by
          rcases Nat.div_eq_zero_iff.1 h2 with h3 | h3
          · have := Nat.two_pow_pos (P % 8); omega
          · exact h3
        exact Nat.testBit_lt_two_pow (Nat.lt_of_lt_of_le hlt (Nat.pow_le_pow_right (by omega) (by omega)))
      · rw [List.getD_eq_getElem?_getD, List.getElem?_eq_none (by omega)]; simp
    rw [this]; simp [c]
theorem run110e {H : ZD} {L : DV} {bs : List Nat} {w n : Nat} (hB : BytesL L bs) (bb : BB bs) (hw : w ≤ 62) (hb : n ≤ 4096) (h : ¬ padOk bs w n) :
    ∃ e : Int, E X 110 [L, .int .i64 n, .int .i64 w] H = some (.tup [.nils, .int .i64 e], H) ∧ (e == 0) = false := by
  have e100 := run125 w hw H
  have e101 := run143 n w (by omega) hw H
  have hv := hB.vw H
  have hmul : n * w ≤ 4096 * 62 := Nat.mul_le_mul hb hw
  unfold padOk at h
  obtain ⟨P, hP⟩ : ∃ P, P = n * w := ⟨_, rfl⟩
  have z1 : IntKind.i64.wrap ((n : Int) * (w : Int)) = (P : Int) := by
    rw [← Int.natCast_mul, ← hP, wrap64 _ (by omega) (by omega)]
  rw [← hP] at h e101 hmul
  obtain ⟨r, hr⟩ : ∃ r, r = P % 8 := ⟨_, rfl⟩
  have z2 : ((P : Int)).tmod 8 = (r : Int) := by rw [Int.tmod_eq_emod_of_nonneg (by omega)]; omega
  obtain ⟨m, hm⟩ : ∃ m, m = (P + 7) / 8 := ⟨_, rfl⟩
  rw [← hm] at h e101
  rw [← hr] at h
  have d1 : ¬ (4096 : Int) < (n : Int) := by omega
  have d2 : ¬ 4096 < n := by omega
  have d3 : ¬ (n : Int) < 0 := by omega
  clear hB
  by_cases c1 : bs.length < m
  · refine ⟨6, ?_, rfl⟩
    have c1' : (bs.length : Int) < (m : Int) := by omega
    rw [Yc (X := X) _ b110 _ rfl rfl]; unfold b110; (repeat (first | rw [Zj] | rw [Zc (by simp [go_sem, e100, e101, hv, z1, z2, d1, d2, d3, c1, c1']; exact ⟨rfl, rfl⟩)] | rw [Zv (by simp [lk, Za, Od.v, e100, e101, hv, z1, z2, d1, d2, d3, c1, c1']; exact rfl)] | rw [Zp] | rw [Zm] | rw [Zl] | rw [Zy] | rw [Zq] | rw [Zt] | rw [Zo] | rw [Zn] | rw [Zk] | rw [Zg] | rw [Zh] | rw [Zd (by decide)] | rw [Zi] | rw [Ze] | rw [Zf] | rw [Zb (by decide)] | rw [Zz] | rw [Zu (by simp [go_sem, e100, e101, hv, z1, z2, d1, d2, d3, c1, c1']; exact ⟨rfl, rfl⟩)] | rw [Zw (by simp [lk, Za, Od.v, e100, e101, hv, z1, z2, d1, d2, d3, c1, c1']; exact rfl)] | rw [Zx])); simp [Zr, Zs, ZY, go_sem, fin, Yu, Yt, YA, Yy, YC, e100, e101, hv, z1, z2, d1, d2, d3, c1, c1']
  have c1' : ¬ (bs.length : Int) < (m : Int) := by omega
  refine ⟨7, ?_, rfl⟩
  by_cases c2 : m < bs.length
  · have c2' : (m : Int) < (bs.length : Int) := by omega
    rw [Yc (X := X) _ b110 _ rfl rfl]; unfold b110; (repeat (first | rw [Zj] | rw [Zc (by simp [go_sem, e100, e101, hv, z1, z2, d1, d2, d3, c1, c1', c2, c2']; exact ⟨rfl, rfl⟩)] | rw [Zv (by simp [lk, Za, Od.v, e100, e101, hv, z1, z2, d1, d2, d3, c1, c1', c2, c2']; exact rfl)] | rw [Zp] | rw [Zm] | rw [Zl] | rw [Zy] | rw [Zq] | rw [Zt] | rw [Zo] | rw [Zn] | rw [Zk] | rw [Zg] | rw [Zh] | rw [Zd (by decide)] | rw [Zi] | rw [Ze] | rw [Zf] | rw [Zb (by decide)] | rw [Zz] | rw [Zu (by simp [go_sem, e100, e101, hv, z1, z2, d1, d2, d3, c1, c1', c2, c2']; exact ⟨rfl, rfl⟩)] | rw [Zw (by simp [lk, Za, Od.v, e100, e101, hv, z1, z2, d1, d2, d3, c1, c1', c2, c2']; exact rfl)] | rw [Zx])); simp [Zr, Zs, ZY, go_sem, fin, Yu, Yt, YA, Yy, YC, e100, e101, hv, z1, z2, d1, d2, d3, c1, c1', c2, c2']
  have c2' : ¬ (m : Int) < (bs.length : Int) := by omega
  have hlen : bs.length = m := by omega
  have h5 : 0 < r ∧ bs.getD (bs.length - 1) 0 / 2 ^ r ≠ 0 := by
    refine ⟨?_, ?_⟩
    · apply Nat.pos_of_ne_zero
      intro h0
      exact h ⟨hlen, fun h1 => by omega⟩
    · intro h0
      exact h ⟨hlen, fun _ => h0⟩
  obtain ⟨d5, hne⟩ := h5
  have d4 : (0 : Int) < (r : Int) := by omega
  have d6 : ¬ (r : Int) < 0 := by omega
  obtain ⟨q, hq⟩ : ∃ q, q = m - 1 := ⟨_, rfl⟩
  have hqm : q < bs.length := by omega
  have hqm' : q < m := by omega
  have hqv : (bs.map bD)[q]? = some (bD bs[q]) := by simp [hqm]
  rw [hlen, ← hq, List.getD_eq_getElem?_getD, List.getElem?_eq_getElem hqm] at hne
  have hne : bs[q] / 2 ^ r ≠ 0 := hne
  obtain ⟨x, hx⟩ : ∃ x, x = bs[q] := ⟨_, rfl⟩
  have hx' := hx.symm
  rw [← hx] at hne
  obtain ⟨y, hy⟩ : ∃ y, y = x / 2 ^ r := ⟨_, rfl⟩
  rw [← hy] at hne
  have z3 : IntKind.i64.wrap ((m : Int) - 1) = (q : Int) := (by rw [wrap64 _ (by omega) (by omega)]; omega)
  have z4 : ((x : Int)).fdiv (2 ^ min r IntKind.u8.bits) = (y : Int) := by
    rw [show min r IntKind.u8.bits = r from Nat.min_eq_left (by simp [IntKind.bits]; omega), show (2 : Int) ^ r = ((2 ^ r : Nat) : Int) by simp, Int.fdiv_eq_ediv_of_nonneg _ (Int.natCast_nonneg _), ← Int.natCast_ediv, hy]
  have z4' : ((x : Int)).fdiv (2 ^ min r 8) = (y : Int) := z4
  have y0 : 0 < y := by omega
  have y1 : (0 : Int) < (y : Int) := by omega
  clear h bb hx hy
  rw [Yc (X := X) _ b110 _ rfl rfl]; unfold b110; (repeat (first | rw [Zj] | rw [Zc (by simp [go_sem, e100, e101, hv, z1, z2, z3, z4, z4', d1, d2, d3, d4, d5, d6, c1, c1', c2, c2', hlen, hqm, hqm', hx', hqv, y0, y1, ZR]; exact ⟨rfl, rfl⟩)] | rw [Zv (by simp [lk, Za, Od.v, e100, e101, hv, z1, z2, z3, z4, z4', d1, d2, d3, d4, d5, d6, c1, c1', c2, c2', hlen, hqm, hqm', hx', hqv, y0, y1, ZR]; exact rfl)] | rw [Zp] | rw [Zm] | rw [Zl] | rw [Zy] | rw [Zq] | rw [Zt] | rw [Zo] | rw [Zn] | rw [Zk] | rw [Zg] | rw [Zh] | rw [Zd (by decide)] | rw [Zi] | rw [Ze] | rw [Zf] | rw [Zb (by decide)] | rw [Zz] | rw [Zu (by simp [go_sem, e100, e101, hv, z1, z2, z3, z4, z4', d1, d2, d3, d4, d5, d6, c1, c1', c2, c2', hlen, hqm, hqm', hx', hqv, y0, y1, ZR]; exact ⟨rfl, rfl⟩)] | rw [Zw (by simp [lk, Za, Od.v, e100, e101, hv, z1, z2, z3, z4, z4', d1, d2, d3, d4, d5, d6, c1, c1', c2, c2', hlen, hqm, hqm', hx', hqv, y0, y1, ZR]; exact rfl)] | rw [Zx])); simp [Zr, Zs, ZY, go_sem, fin, Yu, Yt, YA, Yy, YC, e100, e101, hv, z1, z2, z3, z4, z4', d1, d2, d3, d4, d5, d6, c1, c1', c2, c2', hlen, hqm, hqm', hx', hqv, y0, y1, ZR]
/-- A column that may be. -/
def okC (n : Int) (ys : List V) (bs : List Nat) : Prop := 0 ≤ n ∧ n ≤ 4096 ∧ risL none ys = true ∧ padOk bs (wC ys.length) n.toNat ∧ (∀ p ∈ idsN bs (wC ys.length) n.toNat, p < ys.length) ∧ ∀ k, k < ys.length → k ∈ idsN bs (wC ys.length) n.toNat
theorem okC.col {n : Int} {ys : List V} {bs : List Nat} {D B : DV} (h : okC n ys bs) (hD : ValL D ys) (hyb : ys.length ≤ 256) (hB : BytesL B bs) (bb : BB bs) : n = (n.toNat : Int) ∧ ColOk n.toNat D B ys (idsN bs (wC ys.length) n.toNat) := by
  obtain ⟨h1, h2, h3, h4, h5, h6⟩ := h
  obtain ⟨u1, u2⟩ := risL_none _ h3
  refine ⟨by omega, hD, u1, u2, hyb, by rw [idsN_pack bb h4]; exact hB, idsN_len _ _ _, by omega, fun p => ⟨h5 p, h6 p⟩⟩
theorem loop64b {H : ZD} {n : Nat} {D B R : DV} {ys : List V} {il : List Nat} (hD : ∀ g, vw g 4 D = some (ys.map V.d)) (hR : ∀ g, vw g 1 R = some (il.map iD)) (hn : il.length = n) (hb : n ≤ 4096) (hyb : ys.length ≤ 1000) :
    ∀ (k i : Nat), n - i ≤ k → i ≤ n → (∃ p ∈ il.drop i, ys.length ≤ p) → ∃ h', C X (.loop lp64_0) [(1, .ref H.length 0), (4, R), (5, .int .i64 0), (6, .map (H.length + 1)), (36, R), (37, .int .i64 n), (38, .int .i64 i)] (ih_ H n D B (Ys (il.take i))) = some (.ret, [(2, .nils), (3, .bool false)], h') ∧ h'.take H.length = H := by
  intro k
  induction k with
  | zero =>
    intro i hk hi hex
    obtain rfl : i = n := by omega
    rw [← hn, List.drop_length] at hex
    obtain ⟨p, hp, _⟩ := hex
    cases hp
  | succ k ih =>
    intro i hk hi hex
    by_cases c : i < n
    · obtain ⟨I, hI⟩ : ∃ I, I = i + 1 := ⟨_, rfl⟩
      have z1 : IntKind.i64.wrap ((i : Int) + 1) = (I : Int) := (by rw [wrap64 _ (by omega) (by omega)]; omega)
      have c' : i < il.length := by omega
      obtain ⟨p, hpp⟩ : ∃ p, p = il[i] := ⟨_, rfl⟩
      have hpp' := hpp.symm
      rw [List.drop_eq_getElem_cons c', ← hpp, ← hI] at hex
      have f1 : (ih_ H n D B (Ys (il.take i)))[H.length]? = some (.box 61 [.int .i64 n, D, B]) := by simp [ih_]
      have f2 : (ih_ H n D B (Ys (il.take i)))[H.length + 1]? = some (.map 0 0 (esN (Ys (il.take i)))) := by simp [ih_, hget]
      by_cases hlt : p < ys.length
      · have hex' : ∃ p ∈ il.drop I, ys.length ≤ p := by
          obtain ⟨x, hx, hxl⟩ := hex
          rcases List.mem_cons.1 hx with rfl | hx
          · omega
          · exact ⟨x, hx, hxl⟩
        have hsn : Ys (il.take I) = addN (Ys (il.take i)) il[i] := by rw [hI, ← List.take_append_getElem c', seenN_snoc]
        have hm := mputN il[i] (Ys (il.take i))
        rw [← hsn, ← hpp] at hm
        obtain ⟨h', hc, ht⟩ := ih I (by omega) (by omega) hex'
        refine ⟨h', ?_, ht⟩
        have f3 : (ih_ H n D B (Ys (il.take i))).set (H.length + 1) (.map 0 0 (esN (Ys (il.take I)))) = ih_ H n D B (Ys (il.take I)) := by simp [ih_, Yj]
        have d1 : ¬ (ys.length : Int) ≤ (p : Int) := by omega
        have d2 : ¬ ys.length ≤ p := by omega
        have hk1 : keq false [1] (.int .i64 (p : Int)) (.int .i64 (p : Int)) = some true := by have := keqN p p; simpa using this
        have hm : mput false [1] (.int .i64 (p : Int)) (.bool true) (esN (Ys (il.take i))) = some (esN (Ys (il.take I))) := hm
        have hs : C X lp64_0 [(1, .ref H.length 0), (4, R), (5, .int .i64 0), (6, .map (H.length + 1)), (36, R), (37, .int .i64 n), (38, .int .i64 i)] (ih_ H n D B (Ys (il.take i))) = some (.norm, [(1, .ref H.length 0), (4, R), (5, .int .i64 0), (6, .map (H.length + 1)), (36, R), (37, .int .i64 n), (38, .int .i64 I)], ih_ H n D B (Ys (il.take I))) := by
          clear ih hc hsn hex hex'
          generalize ih_ H n D B (Ys (il.take I)) = P2 at *
          generalize ih_ H n D B (Ys (il.take i)) = P1 at *
          unfold lp64_0
          (repeat (first | rw [Zj] | rw [Zc (by simp [go_sem, c, c', z1, hR, hD, hpp', f1, f2, f3, d1, d2, hk1, hm, ZR]; exact ⟨rfl, rfl⟩)] | rw [Zv (by simp [lk, Za, Od.v, c, c', z1, hR, hD, hpp', f1, f2, f3, d1, d2, hk1, hm, ZR]; exact rfl)] | rw [Zp] | rw [Zm] | rw [Zl] | rw [Zy] | rw [Zq] | rw [Zt] | rw [Zo] | rw [Zn] | rw [Zk] | rw [Zg] | rw [Zh] | rw [Zd (by decide)] | rw [Zi] | rw [Ze] | rw [Zf] | rw [Zb (by decide)] | rw [Zz] | rw [Zu (by simp [go_sem, c, c', z1, hR, hD, hpp', f1, f2, f3, d1, d2, hk1, hm, ZR]; exact ⟨rfl, rfl⟩)] | rw [Zw (by simp [lk, Za, Od.v, c, c', z1, hR, hD, hpp', f1, f2, f3, d1, d2, hk1, hm, ZR]; exact rfl)] | rw [Zx]))
          simp [Za, lk]
        rw [Yh, hs, Yw]
        exact hc
      · have d1 : (ys.length : Int) ≤ (p : Int) := by omega
        have d2 : ys.length ≤ p := by omega
        refine ⟨ih_ H n D B (Ys (il.take i)), ?_, by simp [ih_]⟩
        have hs : C X lp64_0 [(1, .ref H.length 0), (4, R), (5, .int .i64 0), (6, .map (H.length + 1)), (36, R), (37, .int .i64 n), (38, .int .i64 i)] (ih_ H n D B (Ys (il.take i))) = some (.ret, [(2, .nils), (3, .bool false)], ih_ H n D B (Ys (il.take i))) := by
          clear ih hex
          generalize ih_ H n D B (Ys (il.take i)) = P1 at *
          unfold lp64_0
          (repeat (first | rw [Zj] | rw [Zc (by simp [go_sem, c, c', z1, hR, hD, hpp', f1, f2, d1, d2, ZR]; exact ⟨rfl, rfl⟩)] | rw [Zv (by simp [lk, Za, Od.v, c, c', z1, hR, hD, hpp', f1, f2, d1, d2, ZR]; exact rfl)] | rw [Zp] | rw [Zm] | rw [Zl] | rw [Zy] | rw [Zq] | rw [Zt] | rw [Zo] | rw [Zn] | rw [Zk] | rw [Zg] | rw [Zh] | rw [Zd (by decide)] | rw [Zi] | rw [Ze] | rw [Zf] | rw [Zb (by decide)] | rw [Zz] | rw [Zu (by simp [go_sem, c, c', z1, hR, hD, hpp', f1, f2, d1, d2, ZR]; exact ⟨rfl, rfl⟩)] | rw [Zw (by simp [lk, Za, Od.v, c, c', z1, hR, hD, hpp', f1, f2, d1, d2, ZR]; exact rfl)] | rw [Zx]))
          simp [Za, lk]
        rw [Yh, hs, lp_ret]
    · exact ih i (by omega) hi hex
theorem loop64n (H : ZD) (a b e : DV) : C X (.loop lp64_0) [(1, a), (4, .nils), (5, e), (6, b), (36, .nils), (37, .int .i64 0), (38, .int .i64 0)] H = some (.exit 0, [(1, a), (4, .nils), (5, e), (6, b), (36, .nils), (37, .int .i64 0), (38, .int .i64 0), (39, .bool false)], H) := by
  rw [Yh]
  unfold lp64_0
  (repeat (first | rw [Zj] | rw [Zc (by simp [go_sem]; exact ⟨rfl, rfl⟩)] | rw [Zv (by simp [lk, Za, Od.v]; exact rfl)] | rw [Zp] | rw [Zm] | rw [Zl] | rw [Zy] | rw [Zq] | rw [Zt] | rw [Zo] | rw [Zn] | rw [Zk] | rw [Zg] | rw [Zh] | rw [Zd (by decide)] | rw [Zi] | rw [Ze] | rw [Zf] | rw [Zb (by decide)] | rw [Zz] | rw [Zu (by simp [go_sem]; exact ⟨rfl, rfl⟩)] | rw [Zw (by simp [lk, Za, Od.v]; exact rfl)] | rw [Zx]))
  rw [Yx]
  simp [Za, lk]
theorem fin_nf {H h : ZD} (ht : h.take H.length = H) : fin H h [.nils, .bool false] = (.tup [.nils, .bool false], H) := by
  simp only [fin]
  rw [if_pos ht]
  rfl
theorem nodup_le : ∀ (m : Nat) (l : List Nat), l.Nodup → (∀ x ∈ l, x < m) → l.length ≤ m
  | 0, l, _, h => by
    cases l with
    | nil => simp
    | cons a l => exact absurd (h a (List.mem_cons_self ..)) (by omega)
  | m + 1, l, hn, h => by
    have h1 := nodup_le m (l.erase m) (hn.erase m) (fun x hx => by
      obtain ⟨q1, q2⟩ := hn.mem_erase_iff.1 hx
      have := h x q2
      omega)
    rw [List.length_erase] at h1
    split at h1 <;> omega
theorem seenN_lt {il : List Nat} {m : Nat} (h1 : ∀ p ∈ il, p < m) (h2 : ¬ ∀ k, k < m → k ∈ il) : (Ys il).length ≠ m := by
  intro he
  apply h2
  intro k hk
  obtain ⟨hnd, hm⟩ := foldN il [] List.nodup_nil
  by_cases c : k ∈ il
  · exact c
  exfalso
  have hks : k ∉ Ys il := fun h => by
    rcases (hm k).1 h with h | h
    · cases h
    · exact c h
  have := nodup_le m (k :: Ys il) (List.nodup_cons.2 ⟨hks, hnd⟩) (fun x hx => by
    rcases List.mem_cons.1 hx with rfl | hx
    · exact hk
    · rcases (hm x).1 hx with h | h
      · cases h
      · exact h1 x h)
  rw [List.length_cons, he] at this
  omega
set_option maxHeartbeats 2000000 in
theorem run64f {H : ZD} {n : Int} {D B : DV} {ys : List V} {bs : List Nat} (hD : ValL D ys) (hyb : ys.length ≤ 256) (hB : BytesL B bs) (bb : BB bs) (h : ¬ okC n ys bs) :
    ∃ (R : DV) (il : List Nat), E X 64 [colD n D B] H = some (.tup [R, .bool false], H) ∧ (∀ g, vw g 1 R = some (il.map iD)) ∧ il.length ≤ 4096 ∧ R.one = true := by
  have hDv := hD.vw
  have e111 := fun g => run109 (h := g) (A := D) (fun l => hD.vw _) (by omega)
  by_cases c1 : n < 0
  · refine ⟨.nils, [], ?_, fun _ => rfl, by simp, rfl⟩
    rw [Yc (X := X) _ b64 _ rfl rfl]; unfold b64; (repeat (first | rw [Zj] | rw [Zc (by simp [go_sem, c1]; exact ⟨rfl, rfl⟩)] | rw [Zv (by simp [lk, Za, Od.v, c1]; exact rfl)] | rw [Zp] | rw [Zm] | rw [Zl] | rw [Zy] | rw [Zq] | rw [Zt] | rw [Zo] | rw [Zn] | rw [Zk] | rw [Zg] | rw [Zh] | rw [Zd (by decide)] | rw [Zi] | rw [Ze] | rw [Zf] | rw [Zb (by decide)] | rw [Zz] | rw [Zu (by simp [go_sem, c1]; exact ⟨rfl, rfl⟩)] | rw [Zw (by simp [lk, Za, Od.v, c1]; exact rfl)] | rw [Zx])); simp [Zr, Zs, ZY, go_sem, fin, Yu, Yt, YA, Yy, YC, c1]
  by_cases c2 : 4096 < n
  · refine ⟨.nils, [], ?_, fun _ => rfl, by simp, rfl⟩
    rw [Yc (X := X) _ b64 _ rfl rfl]; unfold b64; (repeat (first | rw [Zj] | rw [Zc (by simp [go_sem, c1, c2]; exact ⟨rfl, rfl⟩)] | rw [Zv (by simp [lk, Za, Od.v, c1, c2]; exact rfl)] | rw [Zp] | rw [Zm] | rw [Zl] | rw [Zy] | rw [Zq] | rw [Zt] | rw [Zo] | rw [Zn] | rw [Zk] | rw [Zg] | rw [Zh] | rw [Zd (by decide)] | rw [Zi] | rw [Ze] | rw [Zf] | rw [Zb (by decide)] | rw [Zz] | rw [Zu (by simp [go_sem, c1, c2]; exact ⟨rfl, rfl⟩)] | rw [Zw (by simp [lk, Za, Od.v, c1, c2]; exact rfl)] | rw [Zx])); simp [Zr, Zs, ZY, go_sem, fin, Yu, Yt, YA, Yy, YC, c1, c2]
  obtain ⟨m, rfl⟩ : ∃ m : Nat, n = (m : Int) := ⟨n.toNat, by omega⟩
  have d1 : ¬ 4096 < m := by omega
  cases c3 : risL none ys
  · refine ⟨.nils, [], ?_, fun _ => rfl, by simp, rfl⟩
    rw [c3] at e111
    rw [Yc (X := X) _ b64 _ rfl rfl]; unfold b64; (repeat (first | rw [Zj] | rw [Zc (by simp [go_sem, c1, c2, d1, e111]; exact ⟨rfl, rfl⟩)] | rw [Zv (by simp [lk, Za, Od.v, c1, c2, d1, e111]; exact rfl)] | rw [Zp] | rw [Zm] | rw [Zl] | rw [Zy] | rw [Zq] | rw [Zt] | rw [Zo] | rw [Zn] | rw [Zk] | rw [Zg] | rw [Zh] | rw [Zd (by decide)] | rw [Zi] | rw [Ze] | rw [Zf] | rw [Zb (by decide)] | rw [Zz] | rw [Zu (by simp [go_sem, c1, c2, d1, e111]; exact ⟨rfl, rfl⟩)] | rw [Zw (by simp [lk, Za, Od.v, c1, c2, d1, e111]; exact rfl)] | rw [Zx])); simp [Zr, Zs, ZY, go_sem, fin, Yu, Yt, YA, Yy, YC, c1, c2, d1, e111]
  rw [c3] at e111
  have hwl : wC ys.length ≤ 62 := by
    have h1 := wN_mono (ys.length - 1) 255 (by omega)
    have h2 : wN 255 = 8 := by decide
    unfold wC; omega
  have e62 := fun g => run80 ys.length hyb g
  by_cases c4 : padOk bs (wC ys.length) m
  case neg =>
    refine ⟨.nils, [], ?_, fun _ => rfl, by simp, rfl⟩
    obtain ⟨e, e112, he⟩ := run110e (H := H ++ [.box 61 [.int .i64 m, D, B]]) hB bb hwl (by omega) c4
    have hl := loop64n (H ++ [.box 61 [.int .i64 m, D, B], .map 0 0 []]) (.ref H.length 0) (.map (H.length + 1)) (.int .i64 e)
    have hfin : fin H (H ++ [.box 61 [.int .i64 m, D, B], .map 0 0 []]) [.nils, .bool false] = _ := fin_nf (by simp)
    generalize wC ys.length = w at *
    clear h c4 hB bb
    rw [Yc (X := X) _ b64 _ rfl rfl]; unfold b64
    have hv0 : ∀ g, vw g 1 .nils = some [] := fun _ => rfl
    (repeat (first | rw [Zj] | rw [Zc (by simp [go_sem, e111, hDv, e62, e112, c1, c2, d1, hintOk, hv0]; exact ⟨rfl, rfl⟩)] | rw [Zv (by simp [lk, Za, Od.v, e111, hDv, e62, e112, c1, c2, d1, hintOk, hv0]; exact rfl)] | rw [Zp] | rw [Zm] | rw [Zl] | rw [Zy] | rw [Zq] | rw [Zt] | rw [Zo] | rw [Zn] | rw [Zk] | rw [Zg] | rw [Zh] | rw [Zd (by decide)] | rw [Zi] | rw [Ze] | rw [Zf] | rw [Zb (by decide)] | rw [Zz] | rw [Zu (by simp [go_sem, e111, hDv, e62, e112, c1, c2, d1, hintOk, hv0]; exact ⟨rfl, rfl⟩)] | rw [Zw (by simp [lk, Za, Od.v, e111, hDv, e62, e112, c1, c2, d1, hintOk, hv0]; exact rfl)] | rw [Zx]))
    (try simp only [Za, List.map_cons, List.map_nil, lk, reduceIte, Nat.reduceEqDiff, Nat.zero_ne_one, Nat.one_ne_zero])
    rw [hl]
    (repeat (first | rw [Zj] | rw [Zc (by simp [go_sem, he, hDv]; exact ⟨rfl, rfl⟩)] | rw [Zv (by simp [lk, Za, Od.v, he, hDv]; exact rfl)] | rw [Zp] | rw [Zm] | rw [Zl] | rw [Zy] | rw [Zq] | rw [Zt] | rw [Zo] | rw [Zn] | rw [Zk] | rw [Zg] | rw [Zh] | rw [Zd (by decide)] | rw [Zi] | rw [Ze] | rw [Zf] | rw [Zb (by decide)] | rw [Zz] | rw [Zu (by simp [go_sem, he, hDv]; exact ⟨rfl, rfl⟩)] | rw [Zw (by simp [lk, Za, Od.v, he, hDv]; exact rfl)] | rw [Zx]))
    simp only [Zr, ZY, lk, Za, List.map_cons, List.map_nil, reduceIte, Option.map_some, Nat.reduceEqDiff, hfin]
  have hpk := idsN_pack bb c4
  obtain ⟨il, hil⟩ : ∃ il, il = idsN bs (wC ys.length) m := ⟨_, rfl⟩
  have hn : il.length = m := by rw [hil]; exact idsN_len _ _ _
  have hB' : BytesL B (pack il (wC ys.length)) := by rw [hil, hpk]; exact hB
  have hwn : ∀ p ∈ il, wN p ≤ wC ys.length := by rw [hil]; exact idsN_wN
  obtain ⟨R, e112, hR⟩ := run110 (H := H ++ [.box 61 [.int .i64 m, D, B]]) hB' hwl hn (by omega) hwn
  have hRv : ∀ g, vw g 1 R = some (il.map iD) := fun g => by rcases hR with ⟨rfl, rfl⟩ | rfl <;> rfl
  have hRo : R.one = true := by rcases hR with ⟨rfl, rfl⟩ | rfl <;> rfl
  have hi0 : ih_ H m D B (Ys (il.take 0)) = H ++ [.box 61 [.int .i64 m, D, B], .map 0 0 []] := rfl
  by_cases c5 : ∀ p ∈ il, p < ys.length
  case neg =>
    refine ⟨.nils, [], ?_, fun _ => rfl, by simp, rfl⟩
    have hex : ∃ p ∈ il.drop 0, ys.length ≤ p := by
      rw [List.drop_zero]
      by_cases q : ∃ p ∈ il, ys.length ≤ p
      · exact q
      · exfalso
        apply c5
        intro p hp
        by_cases q2 : p < ys.length
        · exact q2
        · exact absurd ⟨p, hp, by omega⟩ q
    obtain ⟨h', hl, ht⟩ := loop64b (H := H) (D := D) (B := B) (R := R) hDv hRv hn (by omega) (by omega) m 0 (by omega) (by omega) hex
    rw [hi0, show ((0 : Nat) : Int) = 0 from rfl] at hl
    have hfin := fin_nf ht
    generalize wC ys.length = w at *
    clear h c4 hB bb hex c5 hpk hil hB' hwn hi0
    rw [Yc (X := X) _ b64 _ rfl rfl]; unfold b64
    (repeat (first | rw [Zj] | rw [Zc (by simp [go_sem, e111, hDv, e62, e112, c1, c2, d1, hintOk, hRv, hn]; exact ⟨rfl, rfl⟩)] | rw [Zv (by simp [lk, Za, Od.v, e111, hDv, e62, e112, c1, c2, d1, hintOk, hRv, hn]; exact rfl)] | rw [Zp] | rw [Zm] | rw [Zl] | rw [Zy] | rw [Zq] | rw [Zt] | rw [Zo] | rw [Zn] | rw [Zk] | rw [Zg] | rw [Zh] | rw [Zd (by decide)] | rw [Zi] | rw [Ze] | rw [Zf] | rw [Zb (by decide)] | rw [Zz] | rw [Zu (by simp [go_sem, e111, hDv, e62, e112, c1, c2, d1, hintOk, hRv, hn]; exact ⟨rfl, rfl⟩)] | rw [Zw (by simp [lk, Za, Od.v, e111, hDv, e62, e112, c1, c2, d1, hintOk, hRv, hn]; exact rfl)] | rw [Zx]))
    (try simp only [Za, List.map_cons, List.map_nil, lk, reduceIte, Nat.reduceEqDiff, Nat.zero_ne_one, Nat.one_ne_zero])
    rw [hl]
    (repeat (first | rw [Zj] | rw [Zc (by simp [go_sem]; exact ⟨rfl, rfl⟩)] | rw [Zv (by simp [lk, Za, Od.v]; exact rfl)] | rw [Zp] | rw [Zm] | rw [Zl] | rw [Zy] | rw [Zq] | rw [Zt] | rw [Zo] | rw [Zn] | rw [Zk] | rw [Zg] | rw [Zh] | rw [Zd (by decide)] | rw [Zi] | rw [Ze] | rw [Zf] | rw [Zb (by decide)] | rw [Zz] | rw [Zu (by simp [go_sem]; exact ⟨rfl, rfl⟩)] | rw [Zw (by simp [lk, Za, Od.v]; exact rfl)] | rw [Zx]))
    simp only [Zr, ZY, lk, Za, List.map_cons, List.map_nil, reduceIte, Option.map_some, Nat.reduceEqDiff, hfin]
  have c6 : ¬ ∀ k, k < ys.length → k ∈ il := fun h6 => h ⟨by omega, by omega, c3, c4, by rw [Int.toNat_natCast, ← hil]; exact c5, by rw [Int.toNat_natCast, ← hil]; exact h6⟩
  refine ⟨R, il, ?_, hRv, by omega, hRo⟩
  obtain ⟨y, ex, hc⟩ := loop64 (H := H) (D := D) (B := B) (R := R) hDv hRv hn (by omega) c5 (by omega) m 0 (by omega) (by omega)
  rw [hi0, show ((0 : Nat) : Int) = 0 from rfl] at hc
  have f1 : (ih_ H m D B (Ys il))[H.length]? = some (.box 61 [.int .i64 m, D, B]) := by simp [ih_]
  have f2 : (ih_ H m D B (Ys il))[H.length + 1]? = some (.map 0 0 (esN (Ys il))) := by simp [ih_, hget]
  have f3 : ((esN (Ys il)).length : Int) ≠ (ys.length : Int) := by
    have := seenN_lt c5 c6
    rw [esN, List.length_map]; omega
  have f3' : (((esN (Ys il)).length : Int) == (ys.length : Int)) = false := by simpa using f3
  have f3'' : ((esN (Ys il)).length == ys.length) = false := by simp only [beq_eq_false_iff_ne]; omega
  have f3c : (esN (Ys il)).length ≠ ys.length := by omega
  have f4 : (ih_ H m D B (Ys il)).take H.length = H := by simp [ih_]
  have hfin : fin H (ih_ H m D B (Ys il)) [R, .bool false] = (.tup [R, .bool false], H) := by
    simp only [fin]
    rw [if_pos f4]
    rcases hR with ⟨rfl, _⟩ | rfl <;> rfl
  generalize ih_ H m D B (Ys il) = P at *
  generalize esN (Ys il) = es at *
  generalize wC ys.length = w at *
  clear h c4 hB bb c5 c6 hpk hil hB' hwn hi0
  rw [Yc (X := X) _ b64 _ rfl rfl]; unfold b64
  (repeat (first | rw [Zj] | rw [Zc (by simp [go_sem, e111, hDv, e62, e112, c1, c2, d1, hRv, hn, hintOk]; exact ⟨rfl, rfl⟩)] | rw [Zv (by simp [lk, Za, Od.v, e111, hDv, e62, e112, c1, c2, d1, hRv, hn, hintOk]; exact rfl)] | rw [Zp] | rw [Zm] | rw [Zl] | rw [Zy] | rw [Zq] | rw [Zt] | rw [Zo] | rw [Zn] | rw [Zk] | rw [Zg] | rw [Zh] | rw [Zd (by decide)] | rw [Zi] | rw [Ze] | rw [Zf] | rw [Zb (by decide)] | rw [Zz] | rw [Zu (by simp [go_sem, e111, hDv, e62, e112, c1, c2, d1, hRv, hn, hintOk]; exact ⟨rfl, rfl⟩)] | rw [Zw (by simp [lk, Za, Od.v, e111, hDv, e62, e112, c1, c2, d1, hRv, hn, hintOk]; exact rfl)] | rw [Zx]))
  (try simp only [Za, List.map_cons, List.map_nil, lk, reduceIte, Nat.reduceEqDiff, Nat.zero_ne_one, Nat.one_ne_zero])
  rw [hc]
  (repeat (first | rw [Zj] | rw [Zc (by simp [go_sem, f1, f2, f3, f3', f3'', f3c, hDv]; exact ⟨rfl, rfl⟩)] | rw [Zv (by simp [lk, Za, Od.v, f1, f2, f3, f3', f3'', f3c, hDv]; exact rfl)] | rw [Zp] | rw [Zm] | rw [Zl] | rw [Zy] | rw [Zq] | rw [Zt] | rw [Zo] | rw [Zn] | rw [Zk] | rw [Zg] | rw [Zh] | rw [Zd (by decide)] | rw [Zi] | rw [Ze] | rw [Zf] | rw [Zb (by decide)] | rw [Zz] | rw [Zu (by simp [go_sem, f1, f2, f3, f3', f3'', f3c, hDv]; exact ⟨rfl, rfl⟩)] | rw [Zw (by simp [lk, Za, Od.v, f1, f2, f3, f3', f3'', f3c, hDv]; exact rfl)] | rw [Zx]))
  simp only [Zr, ZY, lk, Za, List.map_cons, List.map_nil, reduceIte, Option.map_some, Nat.reduceEqDiff, hfin]
open Classical in
theorem run38g {n : Int} {D B : DV} {ys : List V} {bs : List Nat} (hD : ValL D ys) (hyb : ys.length ≤ 256) (hB : BytesL B bs) (bb : BB bs) (H : ZD) : E X 38 [colD n D B] H = some (.bool (decide (okC n ys bs)), H) := by
  by_cases h : okC n ys bs
  · obtain ⟨hn, hC⟩ := h.col hD hyb hB bb
    rw [decide_eq_true h, hn]
    exact run38 hC H
  · rw [decide_eq_false h]
    obtain ⟨R, il, e74, _⟩ := run64f (H := H ++ [.box 61 [.int .i64 n, D, B]]) hD hyb hB bb h
    rw [Yc (X := X) _ b38 _ rfl rfl]; unfold b38; (repeat (first | rw [Zj] | rw [Zc (by simp [go_sem, e74]; exact ⟨rfl, rfl⟩)] | rw [Zv (by simp [lk, Za, Od.v, e74]; exact rfl)] | rw [Zp] | rw [Zm] | rw [Zl] | rw [Zy] | rw [Zq] | rw [Zt] | rw [Zo] | rw [Zn] | rw [Zk] | rw [Zg] | rw [Zh] | rw [Zd (by decide)] | rw [Zi] | rw [Ze] | rw [Zf] | rw [Zb (by decide)] | rw [Zz] | rw [Zu (by simp [go_sem, e74]; exact ⟨rfl, rfl⟩)] | rw [Zw (by simp [lk, Za, Od.v, e74]; exact rfl)] | rw [Zx])); simp [Zr, Zs, ZY, go_sem, fin, Yu, Yt, YA, Yy, YC, e74]
end Go.Proofs.YtojhkbbnkhfnhaaGreatDoor
namespace Go.Proofs.YtojhkbbnkhfnhaaGreatDoor
set_option linter.unusedVariables false
set_option linter.unusedSimpArgs false
set_option maxRecDepth 10000
theorem cmpI_zero {a b : Int} (h : cmpI a b = 0) : a = b := by
  unfold cmpI at h
  split at h
  · omega
  · split at h <;> omega
theorem cmpS_zero {a b : ByteArray} (h : cmpS a b = 0) : a = b := by
  unfold cmpS at h
  cases h1 : ltS a b
  · rw [h1] at h
    simp only [Bool.false_eq_true, if_false, Bool.false_or] at h
    cases h2 : (a == b)
    · rw [h2] at h; simp at h
    · have h' : (a.data == b.data) = true := h2
      cases a; cases b
      simp at h' ⊢
      exact h'
  · rw [h1] at h; simp at h
theorem ord_zero {a b : V} (ha : mayV a = true) (hb : mayV b = true) (h : ord a b = 0) : a = b := by
  apply ord_antisymm ha hb (by omega)
  intro h2
  unfold ord at h
  rw [ord_neg] at h2
  by_cases h1 : a.k = b.k
  · rw [if_neg (by simpa using h1)] at h
    rcases h2 with h2 | ⟨_, ⟨h3, h4⟩ | ⟨h3, h4⟩ | ⟨h3, h4, h5⟩⟩
    · omega
    · rw [if_pos (by omega)] at h
      have := cmpI_zero h
      omega
    · rw [if_neg (by omega), if_pos (by omega)] at h
      have := cmpS_zero h
      rw [this] at h4
      have h6 := ord_self ⟨2, 0, b.s, false⟩
      rw [ord_neg] at h6
      exact h6 (.inr ⟨rfl, .inr (.inl ⟨rfl, h4⟩)⟩)
    · rw [if_neg (by omega), if_neg (by omega), if_pos (by omega)] at h
      rw [h4, h5] at h
      simp [cmpI] at h
  · rw [if_pos (by simpa using h1)] at h
    exact h1 (cmpI_zero h)
theorem ord_same (v : V) : ord v v = 0 := by
  unfold ord cmpI cmpS
  have h6 := ord_self ⟨2, 0, v.s, false⟩
  rw [ord_neg] at h6
  have h7 : ltS v.s v.s = false := by
    cases h : ltS v.s v.s
    · rfl
    · exact absurd (.inr ⟨rfl, .inr (.inl ⟨rfl, h⟩)⟩) h6
  have h8 : (v.s == v.s) = true := beq_bytes v.s
  simp [h7, h8]
def Yf (ys : List V) : Nat := match ys with
  | [] => 0
  | y :: _ => if y.k = 0 then 1 else 0
theorem may_k {x : V} (h : mayV x = true) : 0 ≤ x.k := by
  unfold mayV at h
  by_cases h1 : x.k = 1
  · omega
  rw [if_neg h1] at h
  by_cases h2 : x.k = 2
  · omega
  rw [if_neg h2] at h
  by_cases h3 : x.k = 3
  · omega
  rw [if_neg h3] at h
  by_cases h4 : x.k = 0
  · omega
  · simp [h4] at h
theorem up_get {ys : List V} (hU : Up ys) {i j : Nat} {a b : V} (ha : ys[i]? = some a) (hb : ys[j]? = some b) (hij : i < j) : ord a b < 0 := by
  obtain ⟨h1, rfl⟩ := List.getElem?_eq_some_iff.1 ha
  obtain ⟨h2, rfl⟩ := List.getElem?_eq_some_iff.1 hb
  exact List.pairwise_iff_getElem.1 hU i j h1 h2 hij
theorem first_spec {ys : List V} (hU : Up ys) (hm : ∀ x ∈ ys, mayV x = true) {p : Nat} {y : V} (hp : ys[p]? = some y) : y.k = 0 ↔ p < Yf ys := by
  cases ys with
  | nil => simp at hp
  | cons z l =>
    have hz : (z :: l)[0]? = some z := rfl
    show _ ↔ p < if z.k = 0 then 1 else 0
    constructor
    · intro hk
      rcases Nat.eq_zero_or_pos p with rfl | hpos
      · rw [hz] at hp; injection hp with hp; subst hp
        rw [if_pos hk]; omega
      · have := up_get hU hz hp hpos
        rw [ord_neg] at this
        have := may_k (hm z (List.mem_cons_self ..))
        omega
    · intro hlt
      by_cases hk : z.k = 0
      · rw [if_pos hk] at hlt
        obtain rfl : p = 0 := by omega
        rw [hz] at hp; injection hp with hp; subst hp
        exact hk
      · rw [if_neg hk] at hlt; omega
def behD (ys : List V) (v : V) : Nat := if found ys v = true then place ys v + 1 else place ys v
theorem tri_spec {ys : List V} (hU : Up ys) (hm : ∀ x ∈ ys, mayV x = true) {v : V} (hv : mayV v = true) {p : Nat} {y : V} (hp : ys[p]? = some y) :
    (p < place ys v ∧ ord y v < 0) ∨ (place ys v ≤ p ∧ p < behD ys v ∧ ord y v = 0) ∨ (behD ys v ≤ p ∧ place ys v ≤ p ∧ 0 < ord y v) := by
  obtain ⟨s1, s2⟩ := place_spec hU v
  have hy := hm y (List.mem_of_getElem? hp)
  by_cases c : p < place ys v
  · exact .inl ⟨c, s1 p y c hp⟩
  right
  have hnl := s2 p y (by omega) hp
  by_cases e : y = v
  · left
    subst e
    have hpe : p = place ys y := by
      by_cases c2 : p = place ys y
      · exact c2
      · exfalso
        have hlt : place ys y < p := by omega
        have hlen := (List.getElem?_eq_some_iff.1 hp).1
        have hg : ys[place ys y]? = some ys[place ys y] := List.getElem?_eq_getElem (by omega)
        exact s2 _ _ (Nat.le_refl _) hg (up_get hU hg hp hlt)
    have hf : found ys y = true := by
      unfold found
      rw [← hpe, hp]
      exact (V.eqb_iff _ _).2 rfl
    refine ⟨by omega, ?_, ord_same y⟩
    unfold behD
    rw [if_pos hf]; omega
  · right
    have h0 : ord y v ≠ 0 := fun h => e (ord_zero hy hv h)
    refine ⟨?_, by omega, by omega⟩
    unfold behD
    cases hf : found ys v
    · rw [if_neg (by simp)]; omega
    · rw [if_pos rfl]
      have : p ≠ place ys v := by
        intro h
        unfold found at hf
        rw [← h, hp] at hf
        exact e ((V.eqb_iff _ _).1 hf)
      omega
/-- The ranges of a dictionary's numbers for which a comparison with a value that may be holds. -/
def inR (lo hi p : Nat) : Bool := decide (lo ≤ p) && decide (p < hi)
def leafR (ys : List V) (x : N) (p : Nat) : Bool :=
  if x.ask = 1 then inR (max (place ys x.val) (Yf ys)) (max (behD ys x.val) (Yf ys)) p
  else if x.ask = 2 then inR (Yf ys) (max (place ys x.val) (Yf ys)) p || inR (max (behD ys x.val) (Yf ys)) ys.length p
  else if x.ask = 3 then inR (Yf ys) (max (place ys x.val) (Yf ys)) p
  else if x.ask = 4 then inR (Yf ys) (max (behD ys x.val) (Yf ys)) p
  else if x.ask = 5 then inR (max (behD ys x.val) (Yf ys)) ys.length p
  else inR (max (place ys x.val) (Yf ys)) ys.length p
theorem leafR_one {ys : List V} (hU : Up ys) (hm : ∀ x ∈ ys, mayV x = true) {x : N} (hv : mayV x.val = true) (h1 : 1 ≤ x.ask) (h6 : x.ask ≤ 6) {p : Nat} {y : V} (hp : ys[p]? = some y) : leafR ys x p = oneP x y := by
  have hf := first_spec hU hm hp
  have ht := tri_spec hU hm hv hp
  have hlen := (List.getElem?_eq_some_iff.1 hp).1
  have hpb : place ys x.val ≤ behD ys x.val := by unfold behD; split <;> omega
  have h7 : ¬ x.ask = 7 := by omega
  have ho1 : y.k = 0 → oneP x y = false := fun hk => by
    unfold oneP
    rw [if_pos (.inr hk), decide_eq_false (fun h => h7 h.1)]
  have ho2 : ¬ y.k = 0 → oneP x y = cmpP x.ask (ord y x.val) := fun hk => by
    unfold oneP
    rw [if_neg (fun h => h.elim h7 hk)]
  unfold leafR inR
  generalize place ys x.val = a at *
  generalize behD ys x.val = b at *
  generalize Yf ys = f at *
  generalize ord y x.val = o at *
  generalize ys.length = n at *
  by_cases hk : y.k = 0
  · have hpf := hf.1 hk
    have e1 : decide (max a f ≤ p) = false := by simp; omega
    have e2 : decide (max b f ≤ p) = false := by simp; omega
    have e3 : decide (f ≤ p) = false := by simp; omega
    rw [ho1 hk]
    simp [e1, e2, e3]
  · have hpf : ¬ p < f := fun h => hk (hf.2 h)
    rw [ho2 hk]
    unfold cmpP
    have e3 : f ≤ p := by omega
    rcases ht with ⟨t1, t2⟩ | ⟨t1, t2, t3⟩ | ⟨t1, t2, t3⟩
    · have g1 : ¬ max a f ≤ p := by omega
      have g2 : p < max a f := by omega
      have g3 : ¬ max b f ≤ p := by omega
      have g4 : p < max b f := by omega
      have g5 : ¬ o = 0 := by omega
      have g6 : o ≤ 0 := by omega
      have g7 : ¬ 0 < o := by omega
      have g8 : ¬ 0 ≤ o := by omega
      rcases (by omega : x.ask = 1 ∨ x.ask = 2 ∨ x.ask = 3 ∨ x.ask = 4 ∨ x.ask = 5 ∨ x.ask = 6) with q | q | q | q | q | q <;> simp only [q, e3, g1, g2, g3, g4, g5, g6, g7, g8, t2, hlen] <;> simp
    · have g1 : max a f ≤ p := by omega
      have g2 : ¬ p < max a f := by omega
      have g3 : ¬ max b f ≤ p := by omega
      have g4 : p < max b f := by omega
      subst t3
      rcases (by omega : x.ask = 1 ∨ x.ask = 2 ∨ x.ask = 3 ∨ x.ask = 4 ∨ x.ask = 5 ∨ x.ask = 6) with q | q | q | q | q | q <;> simp only [q, e3, g1, g2, g3, g4, hlen] <;> simp
    · have g1 : max a f ≤ p := by omega
      have g2 : ¬ p < max a f := by omega
      have g3 : max b f ≤ p := by omega
      have g4 : ¬ p < max b f := by omega
      have g5 : ¬ o = 0 := by omega
      have g6 : ¬ o ≤ 0 := by omega
      have g7 : ¬ o < 0 := by omega
      have g8 : 0 ≤ o := by omega
      rcases (by omega : x.ask = 1 ∨ x.ask = 2 ∨ x.ask = 3 ∨ x.ask = 4 ∨ x.ask = 5 ∨ x.ask = 6) with q | q | q | q | q | q <;> simp only [q, e3, g1, g2, g3, g4, g5, g6, g7, g8, t3, hlen] <;> simp
/-- A sealed column: its values, its rows' numbers. -/
structure SC where
  ys : List V
  il : List Nat
def v0 : V := ⟨0, 0, ⟨#[]⟩, false⟩
def SC.val (c : SC) (i : Nat) : V := c.ys.getD (c.il.getD i 0) v0
structure SC.Ok (n : Nat) (c : SC) : Prop where
  up : Up c.ys
  may : ∀ x ∈ c.ys, mayV x = true
  len : c.il.length = n
  lt : ∀ p ∈ c.il, p < c.ys.length
theorem SC.Ok.get {n : Nat} {c : SC} (h : c.Ok n) {i : Nat} (hi : i < n) : ∃ p : Nat, c.il[i]? = some p ∧ c.il.getD i 0 = p ∧ c.ys[p]? = some (c.val i) ∧ p < c.ys.length := by
  have hil : i < c.il.length := by rw [h.len]; exact hi
  have h1 : c.il[i]? = some c.il[i] := List.getElem?_eq_getElem hil
  have h2 : c.il.getD i 0 = c.il[i] := by rw [List.getD_eq_getElem?_getD, h1]; rfl
  have h3 := h.lt _ (List.getElem_mem hil)
  refine ⟨c.il[i], h1, h2, ?_, h3⟩
  unfold SC.val
  rw [h2, List.getD_eq_getElem?_getD, List.getElem?_eq_getElem h3]
  rfl
def rowS (cs : List SC) (i : Nat) : List V := cs.map fun c => c.val i
def rowsS (cs : List SC) (n : Nat) : List (List V) := (List.range n).map (rowS cs)
theorem rowsS_get (cs : List SC) {n i : Nat} (hi : i < n) : (rowsS cs n)[i]? = some (rowS cs i) := by
  unfold rowsS; simp [hi]
def rngW (c : SC) (n lo hi : Nat) : List Nat := ofW (rowsN (inR lo hi) c.il n)
theorem rngW_bit (c : SC) (n lo hi i : Nat) : bit (rngW c n lo hi) i = (decide (i < n) && inR lo hi (c.il.getD i 0)) := by
  unfold rngW rowsN
  rw [bit_of]
  simp only [List.mem_filter, List.mem_range]
  by_cases h : i < n <;> simp [h]
/-- Rows that have a value of a column alone. -/
def Yr (vs : List V) (k : Nat) : List (List V) := vs.map fun v => List.replicate k v0 ++ [v]
def Yz (c : SC) (n : Nat) : List V := (List.range n).map c.val
theorem across_get {c : SC} {n k i : Nat} (hi : i < n) : (Yr (Yz c n) k)[i]? = some (List.replicate k v0 ++ [c.val i]) := by
  unfold Yr Yz; simp [hi]
def colS (cs : List SC) (k : Int) : Option SC := if 0 ≤ k then cs[k.toNat]? else none
def askS (c : SC) (n : Nat) (x : N) : List Nat :=
  if x.ask = 1 then rngW c n (max (place c.ys x.val) (Yf c.ys)) (max (behD c.ys x.val) (Yf c.ys))
  else if x.ask = 2 then orW (rngW c n (Yf c.ys) (max (place c.ys x.val) (Yf c.ys))) (rngW c n (max (behD c.ys x.val) (Yf c.ys)) c.ys.length)
  else if x.ask = 3 then rngW c n (Yf c.ys) (max (place c.ys x.val) (Yf c.ys))
  else if x.ask = 4 then rngW c n (Yf c.ys) (max (behD c.ys x.val) (Yf c.ys))
  else if x.ask = 5 then rngW c n (max (behD c.ys x.val) (Yf c.ys)) c.ys.length
  else rngW c n (max (place c.ys x.val) (Yf c.ys)) c.ys.length
def leafC (c : SC) (n : Nat) (x : N) : List Nat :=
  if x.ask = 7 then rngW c n 0 (Yf c.ys)
  else if mayV x.val = false then ofW (leafI x (Yr (Yz c n) x.col.toNat) n)
  else askS c n x
def leafS (cs : List SC) (n : Nat) (x : N) : List Nat := match colS cs x.col with
  | none => []
  | some c => leafC c n x
theorem askS_bit (c : SC) (n : Nat) (x : N) (i : Nat) : bit (askS c n x) i = (decide (i < n) && leafR c.ys x (c.il.getD i 0)) := by
  unfold askS leafR
  split
  · rw [rngW_bit]
  split
  · rw [bit_or, rngW_bit, rngW_bit]
    cases decide (i < n) <;> simp
  split
  · rw [rngW_bit]
  split
  · rw [rngW_bit]
  split
  · rw [rngW_bit]
  · rw [rngW_bit]
theorem leafC_bit {c : SC} {n : Nat} (h : c.Ok n) {x : N} (h1 : 1 ≤ x.ask) (h7 : x.ask ≤ 7) (hk : 0 ≤ x.col) {i : Nat} (hi : i < n) : bit (leafC c n x) i = oneP x (c.val i) := by
  obtain ⟨p, hp, hpd, hy, hlt⟩ := h.get hi
  unfold leafC
  by_cases a7 : x.ask = 7
  · rw [if_pos a7, rngW_bit, hpd]
    have hf := first_spec h.up h.may hy
    unfold oneP inR
    rw [if_pos (.inl a7), decide_eq_true hi]
    by_cases hz : (c.val i).k = 0
    · have := hf.1 hz
      simp [a7, hz, this]
    · have : ¬ p < Yf c.ys := fun hh => hz (hf.2 hh)
      simp [a7, hz, this]
  rw [if_neg a7]
  by_cases hv : mayV x.val = false
  · rw [if_pos hv, bit_of]
    unfold leafI
    simp only [List.mem_filter, List.mem_range]
    have hrow := across_get (c := c) (n := n) (k := x.col.toNat) hi
    have hcell : cellV x (List.replicate x.col.toNat v0 ++ [c.val i]) = some (c.val i) := by
      unfold cellV
      rw [if_pos hk, List.getElem?_append_right (by simp)]
      simp
    rw [List.getD_eq_getElem?_getD, hrow, Option.getD_some, leafP_cell, hcell]
    simp [hi]
  · rw [if_neg hv, askS_bit, hpd, decide_eq_true hi, Bool.true_and]
    exact leafR_one h.up h.may (by simpa using hv) h1 (by omega) hy
theorem leafC_out {c : SC} {n : Nat} (x : N) {i : Nat} (hi : n ≤ i) : bit (leafC c n x) i = false := by
  have hn : decide (i < n) = false := by simp; omega
  unfold leafC
  split
  · rw [rngW_bit, hn, Bool.false_and]
  split
  · rw [bit_of]
    unfold leafI
    simp only [List.mem_filter, List.mem_range, decide_eq_false_iff_not]
    omega
  · rw [askS_bit, hn, Bool.false_and]
theorem leafS_bit {cs : List SC} {n : Nat} (h : ∀ c ∈ cs, c.Ok n) {x : N} (h1 : 1 ≤ x.ask) (h7 : x.ask ≤ 7) {i : Nat} (hi : i < n) : bit (leafS cs n x) i = leafP x (rowS cs i) := by
  unfold leafS colS
  rw [leafP_cell]
  unfold cellV rowS
  by_cases hk : 0 ≤ x.col
  · rw [if_pos hk, if_pos hk, List.getElem?_map]
    cases hc : cs[x.col.toNat]? with
    | none => exact bit_out (by simp)
    | some c => exact leafC_bit (h c (List.mem_of_getElem? hc)) h1 h7 hk hi
  · rw [if_neg hk, if_neg hk]
    exact bit_out (by simp)
theorem leafS_out {cs : List SC} {n : Nat} (x : N) {i : Nat} (hi : n ≤ i) : bit (leafS cs n x) i = false := by
  unfold leafS
  split
  · exact bit_out (by simp)
  · exact leafC_out x hi
theorem rngW_WB (c : SC) (n lo hi : Nat) : WB (rngW c n lo hi) := ofW_WB _
theorem rngW_len (c : SC) {n : Nat} (lo hi : Nat) (hn : n ≤ 4096) : (rngW c n lo hi).length ≤ 1024 := ofW_len (fun k hk => by
  unfold rowsN at hk
  have := (List.mem_filter.1 hk).1
  rw [List.mem_range] at this; omega)
theorem askS_WB (c : SC) (n : Nat) (x : N) : WB (askS c n x) := by
  unfold askS
  split
  · exact rngW_WB _ _ _ _
  split
  · exact orW_WB (rngW_WB _ _ _ _) (rngW_WB _ _ _ _)
  split
  · exact rngW_WB _ _ _ _
  split
  · exact rngW_WB _ _ _ _
  split
  · exact rngW_WB _ _ _ _
  · exact rngW_WB _ _ _ _
theorem askS_len (c : SC) {n : Nat} (x : N) (hn : n ≤ 4096) : (askS c n x).length ≤ 1024 := by
  unfold askS
  split
  · exact rngW_len _ _ _ hn
  split
  · unfold orW
    rw [List.length_map, List.length_range]
    have h1 := rngW_len c (Yf c.ys) (max (place c.ys x.val) (Yf c.ys)) hn
    have h2 := rngW_len c (max (behD c.ys x.val) (Yf c.ys)) c.ys.length hn
    omega
  split
  · exact rngW_len _ _ _ hn
  split
  · exact rngW_len _ _ _ hn
  split
  · exact rngW_len _ _ _ hn
  · exact rngW_len _ _ _ hn
theorem leafC_WB (c : SC) (n : Nat) (x : N) : WB (leafC c n x) := by
  unfold leafC
  split
  · exact rngW_WB _ _ _ _
  split
  · exact ofW_WB _
  · exact askS_WB _ _ _
theorem leafC_len (c : SC) {n : Nat} (x : N) (hn : n ≤ 4096) : (leafC c n x).length ≤ 1024 := by
  unfold leafC
  split
  · exact rngW_len _ _ _ hn
  split
  · exact ofW_len (fun k hk => by have := leafI_lt x _ n k hk; omega)
  · exact askS_len _ _ hn
theorem leafS_WB (cs : List SC) (n : Nat) (x : N) : WB (leafS cs n x) := by
  unfold leafS
  split
  · intro y hy; cases hy
  · exact leafC_WB _ _ _
theorem leafS_len (cs : List SC) {n : Nat} (x : N) (hn : n ≤ 4096) : (leafS cs n x).length ≤ 1024 := by
  unfold leafS
  split
  · simp
  · exact leafC_len _ _ hn
theorem stepB_congr {a b : Bool} (bs : List Bool) (x : N) (h : 1 ≤ x.ask → x.ask ≤ 7 → a = b) : stepB a bs x = stepB b bs x := by
  unfold stepB
  split
  · rfl
  split
  · rename_i h1; exact h h1.1 h1.2
  · rfl
theorem dnB_congr {lf lg : N → Bool} (h : ∀ x : N, 1 ≤ x.ask → x.ask ≤ 7 → lf x = lg x) (xs : List N) : dnB lf xs = dnB lg xs := by
  induction xs using snoc_ind with
  | h0 => rfl
  | h1 l x ih => rw [dnB_snoc, dnB_snoc, ih, stepB_congr _ x (h x)]
def sealW (cs : List SC) (n : Nat) (xs : List N) : List Nat := setsW n (leafS cs n) xs
end Go.Proofs.YtojhkbbnkhfnhaaGreatDoor
