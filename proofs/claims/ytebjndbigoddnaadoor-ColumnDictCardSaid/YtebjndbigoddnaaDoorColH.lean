/- Ideal runs: a number out of bytes. Ideal runs: bits.Unpack. Ideal runs: column.ids, column.May. Ideal runs: column.May, column.Range. Ideal runs: the chapter's example; ColumnBuilds. ColumnBuilds, in plain Lean: the ideal run of the law. -/
import Derived.Test.YtebjndbigoddnaaDoorColA
import Derived.Test.YtebjndbigoddnaaDoorBitA
namespace Go.Proofs.YtebjndbigoddnaaDoor
set_option linter.unusedVariables false
set_option linter.unusedSimpArgs false
set_option maxRecDepth 10000
/-- The number at the i-th place, its first k bits. -/
def numB (bs : List Nat) (w i : Nat) : Nat → Nat
  | 0 => 0
  | k + 1 => numB bs w i k ||| (bs.getD ((i * w + k) / 8) 0 / 2 ^ ((i * w + k) % 8) % 2) * 2 ^ k
theorem bit_c (bs : List Nat) (q : Nat) : decide (bs.getD (q / 8) 0 / 2 ^ (q % 8) % 2 = 1) = bitB bs q := by rw [bit01]; rfl
theorem mul_bit {c k : Nat} (hc : c ≤ 1) (j : Nat) : (c * 2 ^ k).testBit j = (decide (j = k) && decide (c = 1)) := by
  rcases (by omega : c = 0 ∨ c = 1) with rfl | rfl
  · simp
  · rw [Nat.one_mul, Nat.testBit_two_pow]
    simp [eq_comm]
theorem numB_bit (bs : List Nat) (w i : Nat) : ∀ (k j : Nat), (numB bs w i k).testBit j = (decide (j < k) && bitB bs (i * w + j))
  | 0, j => by simp [numB]
  | k + 1, j => by
    rw [numB, Nat.testBit_or, numB_bit bs w i k j, mul_bit (by omega), bit_c]
    by_cases h1 : j = k
    · subst h1; simp
    · by_cases h2 : j < k
      · have h3 : j < k + 1 := by omega
        simp [h1, h2, h3]
      · have h3 : ¬ j < k + 1 := by omega
        simp [h1, h2, h3]
theorem numB_lt (bs : List Nat) (w i : Nat) : ∀ k, numB bs w i k < 2 ^ k
  | 0 => by simp [numB]
  | k + 1 => by
    have h1 := numB_lt bs w i k
    rw [numB]
    have h2 : bs.getD ((i * w + k) / 8) 0 / 2 ^ ((i * w + k) % 8) % 2 ≤ 1 := by omega
    generalize bs.getD ((i * w + k) / 8) 0 / 2 ^ ((i * w + k) % 8) % 2 = c at *
    have h3 : 2 ^ (k + 1) = 2 ^ k + 2 ^ k := by rw [Nat.pow_succ]; omega
    have h4 : c * 2 ^ k ≤ 1 * 2 ^ k := Nat.mul_le_mul_right (2 ^ k) h2
    apply Nat.or_lt_two_pow
    · omega
    · omega
theorem lt_wN (n : Nat) : n < 2 ^ wN n := by
  induction n using Nat.strongRecOn with
  | _ n ih =>
    rcases Nat.eq_zero_or_pos n with rfl | hp
    · exact Nat.two_pow_pos _
    · rw [wN_half n hp, Nat.pow_succ]
      have := ih (n / 2) (by omega)
      omega
theorem numB_pack (l : List Nat) (w i : Nat) (h : i < l.length) (hw : wN l[i] ≤ w) : numB (pack l w) w i w = l[i] := by
  apply Nat.eq_of_testBit_eq
  intro j
  rw [numB_bit, pack_bit]
  have hlt : l[i] < 2 ^ w := Nat.lt_of_lt_of_le (lt_wN _) (Nat.pow_le_pow_right (by omega) hw)
  by_cases c : j < w
  · have h1 : i * w + j < l.length * w := by
      have : i * w + w ≤ l.length * w := by rw [← Nat.succ_mul]; exact Nat.mul_le_mul_right w h
      omega
    have h2 : (i * w + j) / w = i := by
      rw [Nat.mul_comm, Nat.mul_add_div (by omega), Nat.div_eq_of_lt c, Nat.add_zero]
    have h3 : (i * w + j) % w = j := by
      rw [Nat.mul_comm, Nat.mul_add_mod, Nat.mod_eq_of_lt c]
    rw [h2, h3, List.getD_eq_getElem?_getD, List.getElem?_eq_getElem h]
    simp [c, h1]
  · rw [Nat.testBit_lt_two_pow (Nat.lt_of_lt_of_le hlt (Nat.pow_le_pow_right (by omega) (by omega)))]
    simp [c]
/-- The bytes' box, and the number's. -/
def nh (H : ZY) (L : DV) (x : Nat) : ZY := H ++ [.box 51 [L], .box 3 [.int .i64 x]]
theorem run129 {H : ZY} {L : DV} {bs : List Nat} (hL : ∀ g, vw g 1 L = some (bs.map bD)) (bb : BB bs) {x a k : Nat} (ha : a / 8 < bs.length) (ha' : a < 10000000) (hk : k ≤ 61) (hx : x < 2 ^ k) :
    E X 129 [.int .i64 a, .int .i64 k, .ref (H.length + 1) 0, .ref H.length 0] (nh H L x) = some (.tup [], nh H L (x ||| (bs.getD (a / 8) 0 / 2 ^ (a % 8) % 2) * 2 ^ k)) := by
  obtain ⟨p, hp⟩ : ∃ p, p = a / 8 := ⟨_, rfl⟩
  obtain ⟨j, hj⟩ : ∃ j, j = a % 8 := ⟨_, rfl⟩
  have hp' : p < bs.length := by omega
  have e1 : bs.getD p 0 = bs[p] := by rw [List.getD_eq_getElem?_getD, List.getElem?_eq_getElem hp']; rfl
  have hb := bb _ (List.getElem_mem hp')
  rw [← hp, ← hj, e1]
  obtain ⟨b, hbb⟩ : ∃ b, b = bs[p] := ⟨_, rfl⟩
  have hbb' := hbb.symm
  rw [← hbb] at hb ⊢
  obtain ⟨q, hq⟩ : ∃ q, q = b / 2 ^ j := ⟨_, rfl⟩
  obtain ⟨c, hc⟩ : ∃ c, c = q % 2 := ⟨_, rfl⟩
  rw [← hq, ← hc]
  have hc1 : c ≤ 1 := by omega
  have hqb : q ≤ b := by rw [hq]; exact Nat.div_le_self _ _
  have hcu : c * 2 ^ k < 2 ^ 62 := by
    have h1 : 2 ^ k ≤ 2 ^ 61 := Nat.pow_le_pow_right (by omega) hk
    have h2 : c * 2 ^ k ≤ 1 * 2 ^ 61 := Nat.mul_le_mul hc1 h1
    have h3 : (2 : Nat) ^ 62 = 2 * 2 ^ 61 := by decide
    have h4 : 0 < (2 : Nat) ^ 61 := Nat.two_pow_pos _
    omega
  have hx62 : x < 2 ^ 62 := Nat.lt_of_lt_of_le hx (Nat.pow_le_pow_right (by omega) (by omega))
  have hor : x ||| c * 2 ^ k < 2 ^ 62 := Nat.or_lt_two_pow hx62 hcu
  have h62 : (2 : Nat) ^ 62 = 4611686018427387904 := by decide
  rw [h62] at hcu hx62 hor
  have f1 : (nh H L x)[H.length]? = some (.box 51 [L]) := by simp [nh]
  have f2 : (nh H L x)[H.length + 1]? = some (.box 3 [.int .i64 x]) := by simp [nh, hget]
  have f3 : ∀ y, (nh H L x).set (H.length + 1) (.box 3 [.int .i64 y]) = H ++ [.box 51 [L], .box 3 [.int .i64 y]] := fun y => by simp [nh, Yb]
  have f5 : fin (nh H L x) (nh H L (x ||| c * 2 ^ k)) [] = _ := finU (by simp [nh])
  have f6 : H ++ [.box 51 [L], .box 3 [.int .i64 (x ||| c * 2 ^ k : Nat)]] = nh H L (x ||| c * 2 ^ k) := rfl
  have z1 : IntKind.i64.wrap ((a : Int) / 8) = (p : Int) := (by rw [wrap64 _ (by omega) (by omega)]; omega)
  have z2 : ((a : Int)).tmod 8 = (j : Int) := by rw [Int.tmod_eq_emod_of_nonneg (by omega)]; omega
  have z3 : ((b : Int)).fdiv (2 ^ min j IntKind.u8.bits) = (q : Int) := by
    rw [show min j IntKind.u8.bits = j from Nat.min_eq_left (by simp [IntKind.bits]; omega), show (2 : Int) ^ j = ((2 ^ j : Nat) : Int) by simp, Int.fdiv_eq_ediv_of_nonneg _ (Int.natCast_nonneg _), hq]
    rfl
  have z4 : IntKind.u8.wrap ((q % 2 ^ IntKind.u8.bits &&& 1 % 2 ^ IntKind.u8.bits : Nat) : Int) = (c : Int) := by
    rw [show 2 ^ IntKind.u8.bits = 256 from rfl, Nat.mod_eq_of_lt (by omega), show 1 % 256 = 2 ^ 1 - 1 from rfl, Nat.and_two_pow_sub_one_eq_mod, wrap8 (by omega), hc]
  have z5 : IntKind.i64.wrap (c : Int) = (c : Int) := wrap64 _ (by omega) (by omega)
  have z6 : IntKind.i64.wrap ((c : Int) * 2 ^ min k IntKind.i64.bits) = ((c * 2 ^ k : Nat) : Int) := by
    rw [show min k IntKind.i64.bits = k from Nat.min_eq_left (by simp [IntKind.bits]; omega), show (2 : Int) ^ k = ((2 ^ k : Nat) : Int) by simp, ← Int.natCast_mul, wrap64 _ (by omega) (by omega)]
  have d0 : ¬ (j : Int) < 0 := by omega
  have d1 : ¬ (k : Int) < 0 := by omega
  generalize c * 2 ^ k = ck at *
  have z7 : IntKind.i64.wrap ((x % 2 ^ IntKind.i64.bits ||| ck % 2 ^ IntKind.i64.bits : Nat) : Int) = ((x ||| ck : Nat) : Int) := by
    rw [show 2 ^ IntKind.i64.bits = 18446744073709551616 from rfl, Nat.mod_eq_of_lt (by omega), Nat.mod_eq_of_lt (by omega), wrap64 _ (by omega) (by omega)]
  have hLv := hL (nh H L x)
  generalize x ||| ck = ob at *
  generalize nh H L ob = P2 at *
  generalize nh H L x = P1 at *
  rw [Yt (X := X) _ b129 _ rfl rfl]; unfold b129
  (repeat (first | rw [ZB] | rw [Ze (by simp [ZN, ZE, ZG, ZH, Zy, Zj, Zw, Zm, Zo, Zb, Zc, Zn, Zz, ZA, ZI, ↓Zl, Zx, Zk, ZF, Zq, Zp, ZZ, ZD, Yk, put, lk, Od.v, Za, Zf, Zu, Yn, Yc, Yd, Ye, Yo, Yl, DV.isU, DV.cells, hget, ZO, Yb, ZP, Zv, splice, DV.one, ZQ, mat, Ya, Ym, f1, f2, f3, f6, hLv, z1, z2, z3, z4, z5, z6, z7, d0, d1, Yw, hp', hbb']; exact ⟨rfl, rfl⟩)] | rw [ZR (by simp [lk, Za, Od.v, f1, f2, f3, f6, hLv, z1, z2, z3, z4, z5, z6, z7, d0, d1, Yw, hp', hbb']; exact rfl)] | rw [Zq] | rw [Zp] | rw [ZJ] | rw [ZU] | rw [ZK] | rw [ZT] | rw [ZM] | rw [ZL] | rw [ZC] | rw [Zs] | rw [Zt] | rw [Zi (by decide)] | rw [Zr] | rw [Zg] | rw [Zh] | rw [Zd (by decide)] | rw [ZX] | rw [ZV (by simp [ZN, ZE, ZG, ZH, Zy, Zj, Zw, Zm, Zo, Zb, Zc, Zn, Zz, ZA, ZI, ↓Zl, Zx, Zk, ZF, Zq, Zp, ZZ, ZD, Yk, put, lk, Od.v, Za, Zf, Zu, Yn, Yc, Yd, Ye, Yo, Yl, DV.isU, DV.cells, hget, ZO, Yb, ZP, Zv, splice, DV.one, ZQ, mat, Ya, Ym, f1, f2, f3, f6, hLv, z1, z2, z3, z4, z5, z6, z7, d0, d1, Yw, hp', hbb']; exact ⟨rfl, rfl⟩)] | rw [ZW (by simp [lk, Za, Od.v, f1, f2, f3, f6, hLv, z1, z2, z3, z4, z5, z6, z7, d0, d1, Yw, hp', hbb']; exact rfl)] | rw [ZS]))
  rw [Yg]
  simp only [Yq, Option.map_some, f5]
theorem run109 {H : ZY} {L : DV} {bs : List Nat} (hB : BytesL L bs) (bb : BB bs) {w i : Nat} (hw : w ≤ 62) (hi : i ≤ 100000) (hlen : i * w + w ≤ 8 * bs.length) :
    E X 109 [L, .int .i64 i, .int .i64 w] H = some (.int .i64 (numB bs w i w : Nat), H) := by
  have hmul : i * w ≤ 100000 * 62 := Nat.mul_le_mul hi hw
  have e103 := run103 (f := 129) (w := w) (i := i) (cap := [.ref (H.length + 1) 0, .ref H.length 0]) (S := fun k => nh H L (numB bs w i k)) hw hi
    (fun k hk => run129 hB.vw bb (by omega) (by omega) (by omega) (numB_lt bs w i k)) (by simp [nh])
  simp only [nh, numB] at e103
  generalize numB bs w i w = r at *
  have e103 : E X 103 [.int .i64 i, .int .i64 w, .func 129 [] [.ref (H.length + 1) 0, .ref H.length 0]] (H ++ [.box 51 [L], .box 3 [.int .i64 0]]) = some (.tup [], H ++ [.box 51 [L], .box 3 [.int .i64 r]]) := e103
  rcases hB with ⟨rfl, rfl⟩ | rfl
  · rw [Yt (X := X) _ b109 _ rfl rfl]; unfold b109; (repeat (first | rw [ZB] | rw [Ze (by simp [ZN, ZE, ZG, ZH, Zy, Zj, Zw, Zm, Zo, Zb, Zc, Zn, Zz, ZA, ZI, ↓Zl, Zx, Zk, ZF, Zq, Zp, ZZ, ZD, Yk, put, lk, Od.v, Za, Zf, Zu, Yn, Yc, Yd, Ye, Yo, Yl, DV.isU, DV.cells, hget, ZO, Yb, ZP, Zv, splice, DV.one, ZQ, mat, Ya, Ym, e103]; exact ⟨rfl, rfl⟩)] | rw [ZR (by simp [lk, Za, Od.v, e103]; exact rfl)] | rw [Zq] | rw [Zp] | rw [ZJ] | rw [ZU] | rw [ZK] | rw [ZT] | rw [ZM] | rw [ZL] | rw [ZC] | rw [Zs] | rw [Zt] | rw [Zi (by decide)] | rw [Zr] | rw [Zg] | rw [Zh] | rw [Zd (by decide)] | rw [ZX] | rw [ZV (by simp [ZN, ZE, ZG, ZH, Zy, Zj, Zw, Zm, Zo, Zb, Zc, Zn, Zz, ZA, ZI, ↓Zl, Zx, Zk, ZF, Zq, Zp, ZZ, ZD, Yk, put, lk, Od.v, Za, Zf, Zu, Yn, Yc, Yd, Ye, Yo, Yl, DV.isU, DV.cells, hget, ZO, Yb, ZP, Zv, splice, DV.one, ZQ, mat, Ya, Ym, e103]; exact ⟨rfl, rfl⟩)] | rw [ZW (by simp [lk, Za, Od.v, e103]; exact rfl)] | rw [ZS])); simp [Yf, Yg, Yq, ZN, ZE, ZG, ZH, Zy, Zj, Zw, Zm, Zo, Zb, Zc, Zn, Zz, ZA, ZI, ↓Zl, Zx, Zk, ZF, Zq, Zp, ZZ, ZD, Yk, put, lk, Od.v, Za, Zf, Zu, Yn, Yc, Yd, Ye, Yo, Yl, DV.isU, DV.cells, hget, ZO, Yb, ZP, Zv, splice, DV.one, ZQ, mat, Ya, Ym, fin, fz0, fz1, fzT, fzL, nlt, e103]
  · rw [Yt (X := X) _ b109 _ rfl rfl]; unfold b109; (repeat (first | rw [ZB] | rw [Ze (by simp [ZN, ZE, ZG, ZH, Zy, Zj, Zw, Zm, Zo, Zb, Zc, Zn, Zz, ZA, ZI, ↓Zl, Zx, Zk, ZF, Zq, Zp, ZZ, ZD, Yk, put, lk, Od.v, Za, Zf, Zu, Yn, Yc, Yd, Ye, Yo, Yl, DV.isU, DV.cells, hget, ZO, Yb, ZP, Zv, splice, DV.one, ZQ, mat, Ya, Ym, e103]; exact ⟨rfl, rfl⟩)] | rw [ZR (by simp [lk, Za, Od.v, e103]; exact rfl)] | rw [Zq] | rw [Zp] | rw [ZJ] | rw [ZU] | rw [ZK] | rw [ZT] | rw [ZM] | rw [ZL] | rw [ZC] | rw [Zs] | rw [Zt] | rw [Zi (by decide)] | rw [Zr] | rw [Zg] | rw [Zh] | rw [Zd (by decide)] | rw [ZX] | rw [ZV (by simp [ZN, ZE, ZG, ZH, Zy, Zj, Zw, Zm, Zo, Zb, Zc, Zn, Zz, ZA, ZI, ↓Zl, Zx, Zk, ZF, Zq, Zp, ZZ, ZD, Yk, put, lk, Od.v, Za, Zf, Zu, Yn, Yc, Yd, Ye, Yo, Yl, DV.isU, DV.cells, hget, ZO, Yb, ZP, Zv, splice, DV.one, ZQ, mat, Ya, Ym, e103]; exact ⟨rfl, rfl⟩)] | rw [ZW (by simp [lk, Za, Od.v, e103]; exact rfl)] | rw [ZS])); simp [Yf, Yg, Yq, ZN, ZE, ZG, ZH, Zy, Zj, Zw, Zm, Zo, Zb, Zc, Zn, Zz, ZA, ZI, ↓Zl, Zx, Zk, ZF, Zq, Zp, ZZ, ZD, Yk, put, lk, Od.v, Za, Zf, Zu, Yn, Yc, Yd, Ye, Yo, Yl, DV.isU, DV.cells, hget, ZO, Yb, ZP, Zv, splice, DV.one, ZQ, mat, Ya, Ym, fin, fz0, fz1, fzT, fzL, nlt, e103]
def rh (H : ZY) (cur : List Nat) : ZY := H ++ [.row 3 1 0 (cur.map iD)]
theorem pack_last (l : List Nat) (w : Nat) (h : 0 < l.length * w % 8) : (pack l w).getD ((l.length * w + 7) / 8 - 1) 0 < 2 ^ (l.length * w % 8) := by
  apply Nat.lt_pow_two_of_testBit
  intro j hj
  by_cases c : j < 8
  · have := pack_bit l w (8 * ((l.length * w + 7) / 8 - 1) + j)
    unfold bitB at this
    rw [show (8 * ((l.length * w + 7) / 8 - 1) + j) / 8 = (l.length * w + 7) / 8 - 1 by omega, show (8 * ((l.length * w + 7) / 8 - 1) + j) % 8 = j by omega] at this
    rw [this]
    have : ¬ 8 * ((l.length * w + 7) / 8 - 1) + j < l.length * w := by omega
    simp [this]
  · have hb := (pack_BB l w).getD ((l.length * w + 7) / 8 - 1)
    have hp : 256 ≤ 2 ^ j := Nat.le_trans (by decide : 256 ≤ 2 ^ 8) (Nat.pow_le_pow_right (by omega) (by omega))
    exact Nat.testBit_lt_two_pow (by omega)
theorem loop112 {H : ZY} {L : DV} {l : List Nat} {w n : Nat} (hB : BytesL L (pack l w)) (hw : w ≤ 62) (hn : l.length = n) (hb : n ≤ 4096) (hl : ∀ p ∈ l, wN p ≤ w) :
    ∀ (k i : Nat) (cur : List Nat), n - i ≤ k → i ≤ n → cur.length = n → (∀ j, j < i → cur[j]? = l[j]?) →
      ∃ y ex, C X (.loop lp112_0) [(0, L), (2, .int .i64 w), (8, .row H.length 0 0 n false), (55, .int .i64 n), (56, .int .i64 i)] (rh H cur) = some (.exit 1, (0, L) :: (2, .int .i64 w) :: (8, .row H.length 0 0 n false) :: (55, .int .i64 n) :: (56, y) :: ex, rh H l) := by
  intro k
  induction k with
  | zero =>
    intro i cur hk hi hc h1
    obtain rfl : i = n := by omega
    have hcl : cur = l := by
      apply List.ext_getElem?
      intro j
      by_cases c : j < i
      · exact h1 j c
      · rw [List.getElem?_eq_none (by omega), List.getElem?_eq_none (by omega)]
    rw [hcl]
    refine ⟨.int .i64 i, [(57, .bool false)], ?_⟩
    generalize rh H l = P
    rw [Yj]
    unfold lp112_0
    (repeat (first | rw [ZB] | rw [Ze (by simp [ZN, ZE, ZG, ZH, Zy, Zj, Zw, Zm, Zo, Zb, Zc, Zn, Zz, ZA, ZI, ↓Zl, Zx, Zk, ZF, Zq, Zp, ZZ, ZD, Yk, put, lk, Od.v, Za, Zf, Zu, Yn, Yc, Yd, Ye, Yo, Yl, DV.isU, DV.cells, hget, ZO, Yb, ZP, Zv, splice, DV.one, ZQ, mat, Ya, Ym]; exact ⟨rfl, rfl⟩)] | rw [ZR (by simp [lk, Za, Od.v]; exact rfl)] | rw [Zq] | rw [Zp] | rw [ZJ] | rw [ZU] | rw [ZK] | rw [ZT] | rw [ZM] | rw [ZL] | rw [ZC] | rw [Zs] | rw [Zt] | rw [Zi (by decide)] | rw [Zr] | rw [Zg] | rw [Zh] | rw [Zd (by decide)] | rw [ZX] | rw [ZV (by simp [ZN, ZE, ZG, ZH, Zy, Zj, Zw, Zm, Zo, Zb, Zc, Zn, Zz, ZA, ZI, ↓Zl, Zx, Zk, ZF, Zq, Zp, ZZ, ZD, Yk, put, lk, Od.v, Za, Zf, Zu, Yn, Yc, Yd, Ye, Yo, Yl, DV.isU, DV.cells, hget, ZO, Yb, ZP, Zv, splice, DV.one, ZQ, mat, Ya, Ym]; exact ⟨rfl, rfl⟩)] | rw [ZW (by simp [lk, Za, Od.v]; exact rfl)] | rw [ZS]))
    rw [Yr]
    simp [Za, lk]
  | succ k ih =>
    intro i cur hk hi hc h1
    by_cases c : i < n
    · obtain ⟨I, hI⟩ : ∃ I, I = i + 1 := ⟨_, rfl⟩
      have z1 : IntKind.i64.wrap ((i : Int) + 1) = (I : Int) := (by rw [wrap64 _ (by omega) (by omega)]; omega)
      have hil : i < l.length := by omega
      have hpl : i * w + w ≤ l.length * w := by rw [← Nat.succ_mul]; exact Nat.mul_le_mul_right w hil
      have e109 := run109 (H := rh H cur) hB (pack_BB l w) hw (i := i) (by omega) (by rw [pack_len]; omega)
      rw [numB_pack l w i hil (hl _ (List.getElem_mem hil))] at e109
      have hrow : (rh H cur)[H.length]? = some (.row 3 1 0 (cur.map iD)) := by simp [rh]
      have r1 := row_vw hrow hc
      have r2 := row_wr hrow hc c l[i]
      have Yb : (rh H cur).set H.length (.row 3 1 0 ((cur.set i l[i]).map iD)) = rh H (cur.set i l[i]) := by simp [rh, ZP]
      rw [Yb] at r2
      obtain ⟨y, ex, hc2⟩ := ih I (cur.set i l[i]) (by omega) (by omega) (by simpa using hc) (fun j hj => by
        by_cases hji : j = i
        · subst hji
          rw [List.getElem?_set_self (by omega), List.getElem?_eq_getElem hil]
        · rw [List.getElem?_set_ne (Ne.symm hji)]; exact h1 j (by omega))
      refine ⟨y, ex, ?_⟩
      have hs : C X lp112_0 [(0, L), (2, .int .i64 w), (8, .row H.length 0 0 n false), (55, .int .i64 n), (56, .int .i64 i)] (rh H cur) = some (.norm, [(0, L), (2, .int .i64 w), (8, .row H.length 0 0 n false), (55, .int .i64 n), (56, .int .i64 I)], rh H (cur.set i l[i])) := by
        clear ih hc2 hB hl h1 Yb hrow
        generalize rh H (cur.set i l[i]) = P2 at *
        generalize rh H cur = P1 at *
        generalize l[i] = x at *
        unfold lp112_0
        (repeat (first | rw [ZB] | rw [Ze (by simp [ZN, ZE, ZG, ZH, Zy, Zj, Zw, Zm, Zo, Zb, Zc, Zn, Zz, ZA, ZI, ↓Zl, Zx, Zk, ZF, Zq, Zp, ZZ, ZD, Yk, put, lk, Od.v, Za, Zf, Zu, Yn, Yc, Yd, Ye, Yo, Yl, DV.isU, DV.cells, hget, ZO, Yb, ZP, Zv, splice, DV.one, ZQ, mat, Ya, Ym, c, z1, e109, r1, r2, hc]; exact ⟨rfl, rfl⟩)] | rw [ZR (by simp [lk, Za, Od.v, c, z1, e109, r1, r2, hc]; exact rfl)] | rw [Zq] | rw [Zp] | rw [ZJ] | rw [ZU] | rw [ZK] | rw [ZT] | rw [ZM] | rw [ZL] | rw [ZC] | rw [Zs] | rw [Zt] | rw [Zi (by decide)] | rw [Zr] | rw [Zg] | rw [Zh] | rw [Zd (by decide)] | rw [ZX] | rw [ZV (by simp [ZN, ZE, ZG, ZH, Zy, Zj, Zw, Zm, Zo, Zb, Zc, Zn, Zz, ZA, ZI, ↓Zl, Zx, Zk, ZF, Zq, Zp, ZZ, ZD, Yk, put, lk, Od.v, Za, Zf, Zu, Yn, Yc, Yd, Ye, Yo, Yl, DV.isU, DV.cells, hget, ZO, Yb, ZP, Zv, splice, DV.one, ZQ, mat, Ya, Ym, c, z1, e109, r1, r2, hc]; exact ⟨rfl, rfl⟩)] | rw [ZW (by simp [lk, Za, Od.v, c, z1, e109, r1, r2, hc]; exact rfl)] | rw [ZS]))
        simp [Za, lk]
      rw [Yj, hs, Yu]
      exact hc2
    · exact ih i cur (by omega) hi hc h1
theorem run112 {H : ZY} {L : DV} {l : List Nat} {w n : Nat} (hB : BytesL L (pack l w)) (hw : w ≤ 62) (hn : l.length = n) (hb : n ≤ 4096) (hl : ∀ p ∈ l, wN p ≤ w) :
    ∃ R, E X 112 [L, .int .i64 n, .int .i64 w] H = some (.tup [R, .int .i64 0], H) ∧ ((R = .nils ∧ l = []) ∨ R = .list 1 (l.map iD) false) := by
  have e100 := run100 w hw H
  have e101 := run101 n w (by omega) hw H
  have hv := hB.vw H
  have hpl := pack_len l w
  have hla := pack_last l w
  rw [hn] at hpl hla
  obtain ⟨y, ex, hc⟩ := loop112 (H := H) hB hw hn hb hl n 0 (List.replicate n 0) (by omega) (by omega) (by simp) (fun j hj => by omega)
  have hr0 : rh H (List.replicate n 0) = H ++ [.row 3 1 0 (List.replicate n (.int .i64 0))] := by simp [rh]
  rw [hr0, show ((0 : Nat) : Int) = 0 from rfl] at hc
  have gF : Grow 3 iD H (rh H l) (.row H.length 0 0 n false) l := ⟨by simp [rh], .inr ⟨0, H.length, by rw [hn], Nat.le_refl _, by simp [rh]⟩⟩
  obtain ⟨R, hf, hR⟩ := fin_grw gF (fun x => .int _ _) 0
  refine ⟨R, ?_, hR⟩
  have hmul : n * w ≤ 4096 * 62 := Nat.mul_le_mul hb hw
  have hr3 : vw (H ++ [HO.row 3 1 0 (List.replicate n (.int .i64 0))]) 1 (.row H.length 0 0 n false) = some (List.replicate n (.int .i64 0)) := by simp [vw, List.take_of_length_le]
  obtain ⟨P, hP⟩ : ∃ P, P = n * w := ⟨_, rfl⟩
  rw [← hP] at hpl hla e101
  have z1 : IntKind.i64.wrap ((n : Int) * (w : Int)) = (P : Int) := by
    rw [← Int.natCast_mul, ← hP, wrap64 _ (by omega) (by omega)]
  obtain ⟨r, hr⟩ : ∃ r, r = P % 8 := ⟨_, rfl⟩
  have z2 : ((P : Int)).tmod 8 = (r : Int) := by rw [Int.tmod_eq_emod_of_nonneg (by omega)]; omega
  obtain ⟨m, hm⟩ : ∃ m, m = (P + 7) / 8 := ⟨_, rfl⟩
  rw [← hm] at hpl hla e101
  rw [← hr] at hla
  have d1 : ¬ (4096 : Int) < (n : Int) := by omega
  have d2 : ¬ 4096 < n := by omega
  have d3 : ¬ (n : Int) < 0 := by omega
  have m0 : (0 : Int) ≤ (n : Int) := by omega
  have m1 : (n : Int) * 8 ≤ 140737488355328 := by omega
  have hW : Wc 1 (.int .i64 0) := by simp [Wc, DV.cells, DV.one]
  generalize pack l w = pk at *
  clear hl hB gF hR hr0
  by_cases h0 : r = 0
  · have d4 : ¬ (0 : Int) < (r : Int) := by omega
    have d5 : ¬ 0 < r := by omega
    rw [Yt (X := X) _ b112 _ rfl rfl]; unfold b112
    (repeat (first | rw [ZB] | rw [Ze (by simp [ZN, ZE, ZG, ZH, Zy, Zj, Zw, Zm, Zo, Zb, Zc, Zn, Zz, ZA, ZI, ↓Zl, Zx, Zk, ZF, Zq, Zp, ZZ, ZD, Yk, put, lk, Od.v, Za, Zf, Zu, Yn, Yc, Yd, Ye, Yo, Yl, DV.isU, DV.cells, hget, ZO, Yb, ZP, Zv, splice, DV.one, ZQ, mat, Ya, Ym, e100, e101, hv, hpl, z1, z2, d1, d2, d3, d4, d5, m0, m1, hW, hr3]; exact ⟨rfl, rfl⟩)] | rw [ZR (by simp [lk, Za, Od.v, e100, e101, hv, hpl, z1, z2, d1, d2, d3, d4, d5, m0, m1, hW, hr3]; exact rfl)] | rw [Zq] | rw [Zp] | rw [ZJ] | rw [ZU] | rw [ZK] | rw [ZT] | rw [ZM] | rw [ZL] | rw [ZC] | rw [Zs] | rw [Zt] | rw [Zi (by decide)] | rw [Zr] | rw [Zg] | rw [Zh] | rw [Zd (by decide)] | rw [ZX] | rw [ZV (by simp [ZN, ZE, ZG, ZH, Zy, Zj, Zw, Zm, Zo, Zb, Zc, Zn, Zz, ZA, ZI, ↓Zl, Zx, Zk, ZF, Zq, Zp, ZZ, ZD, Yk, put, lk, Od.v, Za, Zf, Zu, Yn, Yc, Yd, Ye, Yo, Yl, DV.isU, DV.cells, hget, ZO, Yb, ZP, Zv, splice, DV.one, ZQ, mat, Ya, Ym, e100, e101, hv, hpl, z1, z2, d1, d2, d3, d4, d5, m0, m1, hW, hr3]; exact ⟨rfl, rfl⟩)] | rw [ZW (by simp [lk, Za, Od.v, e100, e101, hv, hpl, z1, z2, d1, d2, d3, d4, d5, m0, m1, hW, hr3]; exact rfl)] | rw [ZS]))
    (try simp only [Za, List.map_cons, List.map_nil, lk, reduceIte, Nat.reduceEqDiff, Nat.zero_ne_one, Nat.one_ne_zero])
    rw [hc]
    (repeat (first | rw [ZB] | rw [Ze (by simp [ZN, ZE, ZG, ZH, Zy, Zj, Zw, Zm, Zo, Zb, Zc, Zn, Zz, ZA, ZI, ↓Zl, Zx, Zk, ZF, Zq, Zp, ZZ, ZD, Yk, put, lk, Od.v, Za, Zf, Zu, Yn, Yc, Yd, Ye, Yo, Yl, DV.isU, DV.cells, hget, ZO, Yb, ZP, Zv, splice, DV.one, ZQ, mat, Ya, Ym]; exact ⟨rfl, rfl⟩)] | rw [ZR (by simp [lk, Za, Od.v]; exact rfl)] | rw [Zq] | rw [Zp] | rw [ZJ] | rw [ZU] | rw [ZK] | rw [ZT] | rw [ZM] | rw [ZL] | rw [ZC] | rw [Zs] | rw [Zt] | rw [Zi (by decide)] | rw [Zr] | rw [Zg] | rw [Zh] | rw [Zd (by decide)] | rw [ZX] | rw [ZV (by simp [ZN, ZE, ZG, ZH, Zy, Zj, Zw, Zm, Zo, Zb, Zc, Zn, Zz, ZA, ZI, ↓Zl, Zx, Zk, ZF, Zq, Zp, ZZ, ZD, Yk, put, lk, Od.v, Za, Zf, Zu, Yn, Yc, Yd, Ye, Yo, Yl, DV.isU, DV.cells, hget, ZO, Yb, ZP, Zv, splice, DV.one, ZQ, mat, Ya, Ym]; exact ⟨rfl, rfl⟩)] | rw [ZW (by simp [lk, Za, Od.v]; exact rfl)] | rw [ZS]))
    simp only [Yf, Yq, lk, Za, List.map_cons, List.map_nil, reduceIte, Option.map_some, Nat.reduceEqDiff, hf]
  · have d4 : (0 : Int) < (r : Int) := by omega
    have d5 : 0 < r := by omega
    have hlt := hla d5
    obtain ⟨q, hq⟩ : ∃ q, q = m - 1 := ⟨_, rfl⟩
    have hqm : q < pk.length := by omega
    have hqm' : q < m := by omega
    have hqv : (pk.map bD)[q]? = some (bD pk[q]) := by simp [hqm]
    rw [← hq, List.getD_eq_getElem?_getD, List.getElem?_eq_getElem hqm] at hlt
    have hlt : pk[q] < 2 ^ r := hlt
    obtain ⟨x, hx⟩ : ∃ x, x = pk[q] := ⟨_, rfl⟩
    have hx' := hx.symm
    rw [← hx] at hlt
    have z3 : IntKind.i64.wrap ((m : Int) - 1) = (q : Int) := (by rw [wrap64 _ (by omega) (by omega)]; omega)
    have z4 : ((x : Int)).fdiv (2 ^ min r IntKind.u8.bits) = 0 := by
      rw [show min r IntKind.u8.bits = r from Nat.min_eq_left (by simp [IntKind.bits]; omega), show (2 : Int) ^ r = ((2 ^ r : Nat) : Int) by simp, Int.fdiv_eq_ediv_of_nonneg _ (Int.natCast_nonneg _), ← Int.natCast_ediv, Nat.div_eq_of_lt hlt]
      rfl
    have d6 : ¬ (r : Int) < 0 := by omega
    rw [Yt (X := X) _ b112 _ rfl rfl]; unfold b112
    (repeat (first | rw [ZB] | rw [Ze (by simp [ZN, ZE, ZG, ZH, Zy, Zj, Zw, Zm, Zo, Zb, Zc, Zn, Zz, ZA, ZI, ↓Zl, Zx, Zk, ZF, Zq, Zp, ZZ, ZD, Yk, put, lk, Od.v, Za, Zf, Zu, Yn, Yc, Yd, Ye, Yo, Yl, DV.isU, DV.cells, hget, ZO, Yb, ZP, Zv, splice, DV.one, ZQ, mat, Ya, Ym, e100, e101, hv, hpl, z1, z2, z3, z4, d1, d2, d3, d4, d5, d6, m0, m1, hW, hr3, hqm, hqm', hx', hqv, Yw]; exact ⟨rfl, rfl⟩)] | rw [ZR (by simp [lk, Za, Od.v, e100, e101, hv, hpl, z1, z2, z3, z4, d1, d2, d3, d4, d5, d6, m0, m1, hW, hr3, hqm, hqm', hx', hqv, Yw]; exact rfl)] | rw [Zq] | rw [Zp] | rw [ZJ] | rw [ZU] | rw [ZK] | rw [ZT] | rw [ZM] | rw [ZL] | rw [ZC] | rw [Zs] | rw [Zt] | rw [Zi (by decide)] | rw [Zr] | rw [Zg] | rw [Zh] | rw [Zd (by decide)] | rw [ZX] | rw [ZV (by simp [ZN, ZE, ZG, ZH, Zy, Zj, Zw, Zm, Zo, Zb, Zc, Zn, Zz, ZA, ZI, ↓Zl, Zx, Zk, ZF, Zq, Zp, ZZ, ZD, Yk, put, lk, Od.v, Za, Zf, Zu, Yn, Yc, Yd, Ye, Yo, Yl, DV.isU, DV.cells, hget, ZO, Yb, ZP, Zv, splice, DV.one, ZQ, mat, Ya, Ym, e100, e101, hv, hpl, z1, z2, z3, z4, d1, d2, d3, d4, d5, d6, m0, m1, hW, hr3, hqm, hqm', hx', hqv, Yw]; exact ⟨rfl, rfl⟩)] | rw [ZW (by simp [lk, Za, Od.v, e100, e101, hv, hpl, z1, z2, z3, z4, d1, d2, d3, d4, d5, d6, m0, m1, hW, hr3, hqm, hqm', hx', hqv, Yw]; exact rfl)] | rw [ZS]))
    (try simp only [Za, List.map_cons, List.map_nil, lk, reduceIte, Nat.reduceEqDiff, Nat.zero_ne_one, Nat.one_ne_zero])
    rw [hc]
    (repeat (first | rw [ZB] | rw [Ze (by simp [ZN, ZE, ZG, ZH, Zy, Zj, Zw, Zm, Zo, Zb, Zc, Zn, Zz, ZA, ZI, ↓Zl, Zx, Zk, ZF, Zq, Zp, ZZ, ZD, Yk, put, lk, Od.v, Za, Zf, Zu, Yn, Yc, Yd, Ye, Yo, Yl, DV.isU, DV.cells, hget, ZO, Yb, ZP, Zv, splice, DV.one, ZQ, mat, Ya, Ym]; exact ⟨rfl, rfl⟩)] | rw [ZR (by simp [lk, Za, Od.v]; exact rfl)] | rw [Zq] | rw [Zp] | rw [ZJ] | rw [ZU] | rw [ZK] | rw [ZT] | rw [ZM] | rw [ZL] | rw [ZC] | rw [Zs] | rw [Zt] | rw [Zi (by decide)] | rw [Zr] | rw [Zg] | rw [Zh] | rw [Zd (by decide)] | rw [ZX] | rw [ZV (by simp [ZN, ZE, ZG, ZH, Zy, Zj, Zw, Zm, Zo, Zb, Zc, Zn, Zz, ZA, ZI, ↓Zl, Zx, Zk, ZF, Zq, Zp, ZZ, ZD, Yk, put, lk, Od.v, Za, Zf, Zu, Yn, Yc, Yd, Ye, Yo, Yl, DV.isU, DV.cells, hget, ZO, Yb, ZP, Zv, splice, DV.one, ZQ, mat, Ya, Ym]; exact ⟨rfl, rfl⟩)] | rw [ZW (by simp [lk, Za, Od.v]; exact rfl)] | rw [ZS]))
    simp only [Yf, Yq, lk, Za, List.map_cons, List.map_nil, reduceIte, Option.map_some, Nat.reduceEqDiff, hf]
end Go.Proofs.YtebjndbigoddnaaDoor
namespace Go.Proofs.YtebjndbigoddnaaDoor
attribute [local go_sem] ZN ZE ZG ZH Zy Zj Zw Zm Zo Zb Zc Zn Zz ZA ZI Zx Zk ZF Zq Zp ZZ ZD Yk put lk Od.v Za Zf Zu Yn Yc Yd Ye Yo Yl DV.isU DV.cells hget ZO Yb ZP Zv splice ZQ mat Ya Ym one_bool one_int one_str one_nilp one_ref one_elem one_nils one_list one_row one_nilm one_map one_nilf one_func one_nili one_ifc one_agg one_tup one_undef one_fresh
attribute [local go_sem ↓] Zl
set_option linter.unusedVariables false
set_option linter.unusedSimpArgs false
set_option maxRecDepth 10000
/-- The numbers that were seen. -/
def addN (sn : List Nat) (p : Nat) : List Nat := if p ∈ sn then sn else sn ++ [p]
def esN (sn : List Nat) : List (DV × DV) := sn.map fun p => (iD p, DV.bool true)
theorem keqN (p q : Nat) : keq false [1] (iD p) (iD q) = some (decide (p = q)) := by
  simp [keq, Ym]
  by_cases h : p = q
  · subst h; simp
  · have : ¬ (p : Int) = (q : Int) := by omega
    simp [h, this]
theorem mputN (p : Nat) : ∀ sn : List Nat, mput false [1] (iD p) (.bool true) (esN sn) = some (esN (addN sn p))
  | [] => rfl
  | q :: sn => by
    have ih := mputN p sn
    unfold esN at ih ⊢
    simp only [List.map_cons, mput, keqN]
    by_cases h : p = q
    · subst h
      simp [addN]
    · simp only [h, decide_false]
      rw [ih]
      unfold addN
      by_cases h2 : p ∈ sn
      · simp [h, h2]
      · simp [h, h2]
def seenN (il : List Nat) : List Nat := il.foldl addN []
theorem seenN_snoc (il : List Nat) (p : Nat) : seenN (il ++ [p]) = addN (seenN il) p := by simp [seenN, List.foldl_append]
theorem addN_mem (sn : List Nat) (p x : Nat) : x ∈ addN sn p ↔ x ∈ sn ∨ x = p := by
  unfold addN
  split
  · rename_i h
    constructor
    · exact .inl
    · rintro (h1 | rfl)
      · exact h1
      · exact h
  · simp
theorem foldN (il : List Nat) : ∀ sn : List Nat, sn.Nodup → (il.foldl addN sn).Nodup ∧ ∀ x, x ∈ il.foldl addN sn ↔ x ∈ sn ∨ x ∈ il := by
  induction il with
  | nil => intro sn h; exact ⟨h, fun x => by simp⟩
  | cons p il ih =>
    intro sn h
    have h2 : (addN sn p).Nodup := by
      unfold addN
      split
      · exact h
      · rename_i hp
        rw [List.nodup_append]
        refine ⟨h, by simp, fun a ha b hb => ?_⟩
        simp at hb; subst hb
        rintro rfl
        exact hp ha
    obtain ⟨q1, q2⟩ := ih (addN sn p) h2
    refine ⟨q1, fun x => ?_⟩
    rw [List.foldl_cons, q2, addN_mem, List.mem_cons, or_assoc]
theorem seenN_len {il : List Nat} {m : Nat} (h : ∀ p, p ∈ il ↔ p < m) : (seenN il).length = m := by
  obtain ⟨h1, h2⟩ := foldN il [] List.nodup_nil
  have hp : (seenN il).Perm (List.range m) := (List.perm_ext_iff_of_nodup h1 List.nodup_range).2 (fun a => by
    rw [h2, List.mem_range, ← h]; simp)
  have := hp.length_eq
  simpa using this
/-- What ids makes. -/
def ih_ (H : ZY) (n : Int) (D B : DV) (sn : List Nat) : ZY := H ++ [.box 53 [.int .i64 n, D, B], .map 0 0 (esN sn)]
theorem loop74 {H : ZY} {n : Nat} {D B R : DV} {ys : List V} {il : List Nat} (hD : ∀ g, vw g 4 D = some (ys.map V.d)) (hR : ∀ g, vw g 1 R = some (il.map iD)) (hn : il.length = n) (hb : n ≤ 4096) (hl : ∀ p ∈ il, p < ys.length) (hyb : ys.length ≤ 1000) :
    ∀ (k i : Nat), n - i ≤ k → i ≤ n → ∃ y ex, C X (.loop lp74_0) [(1, .ref H.length 0), (4, R), (5, .int .i64 0), (6, .map (H.length + 1)), (36, R), (37, .int .i64 n), (38, .int .i64 i)] (ih_ H n D B (seenN (il.take i))) = some (.exit 0, (1, .ref H.length 0) :: (4, R) :: (5, .int .i64 0) :: (6, .map (H.length + 1)) :: (36, R) :: (37, .int .i64 n) :: (38, y) :: ex, ih_ H n D B (seenN il)) := by
  intro k
  induction k with
  | zero =>
    intro i hk hi
    obtain rfl : i = n := by omega
    rw [← hn, List.take_length, hn]
    refine ⟨.int .i64 i, [(39, .bool false)], ?_⟩
    generalize ih_ H i D B (seenN il) = P
    rw [Yj]
    unfold lp74_0
    (repeat (first | rw [ZB] | rw [Ze (by simp [go_sem]; exact ⟨rfl, rfl⟩)] | rw [ZR (by simp [lk, Za, Od.v]; exact rfl)] | rw [Zq] | rw [Zp] | rw [ZJ] | rw [ZU] | rw [ZK] | rw [ZT] | rw [ZM] | rw [ZL] | rw [ZC] | rw [Zs] | rw [Zt] | rw [Zi (by decide)] | rw [Zr] | rw [Zg] | rw [Zh] | rw [Zd (by decide)] | rw [ZX] | rw [ZV (by simp [go_sem]; exact ⟨rfl, rfl⟩)] | rw [ZW (by simp [lk, Za, Od.v]; exact rfl)] | rw [ZS]))
    rw [Yr]
    simp [Za, lk]
  | succ k ih =>
    intro i hk hi
    by_cases c : i < n
    · obtain ⟨I, hI⟩ : ∃ I, I = i + 1 := ⟨_, rfl⟩
      have z1 : IntKind.i64.wrap ((i : Int) + 1) = (I : Int) := (by rw [wrap64 _ (by omega) (by omega)]; omega)
      have c' : i < il.length := by omega
      have hp := hl _ (List.getElem_mem c')
      have hsn : seenN (il.take I) = addN (seenN (il.take i)) il[i] := by rw [hI, ← List.take_append_getElem c', seenN_snoc]
      have hm := mputN il[i] (seenN (il.take i))
      rw [← hsn] at hm
      obtain ⟨p, hpp⟩ : ∃ p, p = il[i] := ⟨_, rfl⟩
      rw [← hpp] at hp hm
      have hpp' := hpp.symm
      obtain ⟨y, ex, hc⟩ := ih I (by omega) (by omega)
      refine ⟨y, ex, ?_⟩
      have f1 : (ih_ H n D B (seenN (il.take i)))[H.length]? = some (.box 53 [.int .i64 n, D, B]) := by simp [ih_]
      have f2 : (ih_ H n D B (seenN (il.take i)))[H.length + 1]? = some (.map 0 0 (esN (seenN (il.take i)))) := by simp [ih_, hget]
      have f3 : (ih_ H n D B (seenN (il.take i))).set (H.length + 1) (.map 0 0 (esN (seenN (il.take I)))) = ih_ H n D B (seenN (il.take I)) := by simp [ih_, Yb]
      have d1 : ¬ (ys.length : Int) ≤ (p : Int) := by omega
      have d2 : ¬ ys.length ≤ p := by omega
      have hk1 : keq false [1] (.int .i64 (p : Int)) (.int .i64 (p : Int)) = some true := by have := keqN p p; simpa using this
      have hm : mput false [1] (.int .i64 (p : Int)) (.bool true) (esN (seenN (il.take i))) = some (esN (seenN (il.take I))) := hm
      have hs : C X lp74_0 [(1, .ref H.length 0), (4, R), (5, .int .i64 0), (6, .map (H.length + 1)), (36, R), (37, .int .i64 n), (38, .int .i64 i)] (ih_ H n D B (seenN (il.take i))) = some (.norm, [(1, .ref H.length 0), (4, R), (5, .int .i64 0), (6, .map (H.length + 1)), (36, R), (37, .int .i64 n), (38, .int .i64 I)], ih_ H n D B (seenN (il.take I))) := by
        clear ih hc hl hsn
        generalize ih_ H n D B (seenN (il.take I)) = P2 at *
        generalize ih_ H n D B (seenN (il.take i)) = P1 at *
        unfold lp74_0
        (repeat (first | rw [ZB] | rw [Ze (by simp [go_sem, c, c', z1, hR, hD, hpp', f1, f2, f3, d1, d2, hk1, hm, Yw]; exact ⟨rfl, rfl⟩)] | rw [ZR (by simp [lk, Za, Od.v, c, c', z1, hR, hD, hpp', f1, f2, f3, d1, d2, hk1, hm, Yw]; exact rfl)] | rw [Zq] | rw [Zp] | rw [ZJ] | rw [ZU] | rw [ZK] | rw [ZT] | rw [ZM] | rw [ZL] | rw [ZC] | rw [Zs] | rw [Zt] | rw [Zi (by decide)] | rw [Zr] | rw [Zg] | rw [Zh] | rw [Zd (by decide)] | rw [ZX] | rw [ZV (by simp [go_sem, c, c', z1, hR, hD, hpp', f1, f2, f3, d1, d2, hk1, hm, Yw]; exact ⟨rfl, rfl⟩)] | rw [ZW (by simp [lk, Za, Od.v, c, c', z1, hR, hD, hpp', f1, f2, f3, d1, d2, hk1, hm, Yw]; exact rfl)] | rw [ZS]))
        simp [Za, lk]
      rw [Yj, hs, Yu]
      exact hc
    · exact ih i (by omega) hi
set_option maxHeartbeats 1000000 in
theorem run74 {H : ZY} {n : Nat} {D B : DV} {ys : List V} {il : List Nat} (hD : ValL D ys) (hU : Up ys) (hmay : ∀ x ∈ ys, mayV x = true) (hyb : ys.length ≤ 256) (hB : BytesL B (pack il (wC ys.length))) (hn : il.length = n) (hb : n ≤ 4096) (hl : ∀ p, p ∈ il ↔ p < ys.length) :
    ∃ R, E X 74 [colD n D B] H = some (.tup [R, .bool true], H) ∧ ((R = .nils ∧ il = []) ∨ R = .list 1 (il.map iD) false) := by
  have hwl : wC ys.length ≤ 62 := by
    have h1 := wN_mono (ys.length - 1) 255 (by omega)
    have h2 : wN 255 = 8 := by decide
    unfold wC; omega
  have e111 := fun g => run111 (h := g) (A := D) (fun l => hD.vw _) (by omega)
  rw [up_ris ys none hU hmay] at e111
  have e62 := fun g => run62 ys.length hyb g
  obtain ⟨R, e112, hR⟩ := run112 (H := H ++ [.box 53 [.int .i64 n, D, B]]) hB hwl hn hb (fun p hp => wN_mono _ _ (by have := (hl p).1 hp; omega))
  have hRv : ∀ g, vw g 1 R = some (il.map iD) := fun g => by rcases hR with ⟨rfl, rfl⟩ | rfl <;> rfl
  refine ⟨R, ?_, hR⟩
  obtain ⟨y, ex, hc⟩ := loop74 (H := H) (n := n) (D := D) (B := B) (R := R) hD.vw hRv hn hb (fun p hp => (hl p).1 hp) (by omega) n 0 (by omega) (by omega)
  have hi0 : ih_ H n D B (seenN (il.take 0)) = H ++ [.box 53 [.int .i64 n, D, B], .map 0 0 []] := rfl
  rw [hi0, show ((0 : Nat) : Int) = 0 from rfl] at hc
  have f1 : (ih_ H n D B (seenN il))[H.length]? = some (.box 53 [.int .i64 n, D, B]) := by simp [ih_]
  have f2 : (ih_ H n D B (seenN il))[H.length + 1]? = some (.map 0 0 (esN (seenN il))) := by simp [ih_, hget]
  have f3 : (esN (seenN il)).length = ys.length := by rw [esN, List.length_map, seenN_len hl]
  have f4 : (ih_ H n D B (seenN il)).take H.length = H := by simp [ih_]
  have hDv := hD.vw
  have d1 : ¬ (4096 : Int) < (n : Int) := by omega
  have d2 : ¬ 4096 < n := by omega
  have d3 : ¬ (n : Int) < 0 := by omega
  have hfin : fin H (ih_ H n D B (seenN il)) [R, .bool true] = (.tup [R, .bool true], H) := by
    simp only [fin]
    rw [if_pos f4]
    rcases hR with ⟨rfl, _⟩ | rfl <;> rfl
  generalize ih_ H n D B (seenN il) = P at *
  generalize esN (seenN il) = es at *
  generalize wC ys.length = w at *
  rw [Yt (X := X) _ b74 _ rfl rfl]; unfold b74
  (repeat (first | rw [ZB] | rw [Ze (by simp [go_sem, e111, hDv, e62, e112, d1, d2, d3, hRv, hn, hintOk]; exact ⟨rfl, rfl⟩)] | rw [ZR (by simp [lk, Za, Od.v, e111, hDv, e62, e112, d1, d2, d3, hRv, hn, hintOk]; exact rfl)] | rw [Zq] | rw [Zp] | rw [ZJ] | rw [ZU] | rw [ZK] | rw [ZT] | rw [ZM] | rw [ZL] | rw [ZC] | rw [Zs] | rw [Zt] | rw [Zi (by decide)] | rw [Zr] | rw [Zg] | rw [Zh] | rw [Zd (by decide)] | rw [ZX] | rw [ZV (by simp [go_sem, e111, hDv, e62, e112, d1, d2, d3, hRv, hn, hintOk]; exact ⟨rfl, rfl⟩)] | rw [ZW (by simp [lk, Za, Od.v, e111, hDv, e62, e112, d1, d2, d3, hRv, hn, hintOk]; exact rfl)] | rw [ZS]))
  (try simp only [Za, List.map_cons, List.map_nil, lk, reduceIte, Nat.reduceEqDiff, Nat.zero_ne_one, Nat.one_ne_zero])
  rw [hc]
  (repeat (first | rw [ZB] | rw [Ze (by simp [go_sem, f1, f2, f3, hDv]; exact ⟨rfl, rfl⟩)] | rw [ZR (by simp [lk, Za, Od.v, f1, f2, f3, hDv]; exact rfl)] | rw [Zq] | rw [Zp] | rw [ZJ] | rw [ZU] | rw [ZK] | rw [ZT] | rw [ZM] | rw [ZL] | rw [ZC] | rw [Zs] | rw [Zt] | rw [Zi (by decide)] | rw [Zr] | rw [Zg] | rw [Zh] | rw [Zd (by decide)] | rw [ZX] | rw [ZV (by simp [go_sem, f1, f2, f3, hDv]; exact ⟨rfl, rfl⟩)] | rw [ZW (by simp [lk, Za, Od.v, f1, f2, f3, hDv]; exact rfl)] | rw [ZS]))
  simp only [Yf, Yq, lk, Za, List.map_cons, List.map_nil, reduceIte, Option.map_some, Nat.reduceEqDiff, hfin]
/-- A column that was built. -/
structure ColOk (n : Nat) (D B : DV) (ys : List V) (il : List Nat) : Prop where
  dict : ValL D ys
  up : Up ys
  may : ∀ x ∈ ys, mayV x = true
  yb : ys.length ≤ 256
  bytes : BytesL B (pack il (wC ys.length))
  len : il.length = n
  nb : n ≤ 4096
  mem : ∀ p, p ∈ il ↔ p < ys.length
theorem run74c {n : Nat} {D B : DV} {ys : List V} {il : List Nat} (hC : ColOk n D B ys il) (H : ZY) : ∃ R, E X 74 [colD n D B] H = some (.tup [R, .bool true], H) ∧ ∀ g, vw g 1 R = some (il.map iD) := by
  obtain ⟨R, h1, h2⟩ := run74 (H := H) hC.dict hC.up hC.may hC.yb hC.bytes hC.len hC.nb hC.mem
  exact ⟨R, h1, fun g => by rcases h2 with ⟨rfl, rfl⟩ | rfl <;> rfl⟩
theorem run39 {n : Nat} {D B : DV} {ys : List V} {il : List Nat} (hC : ColOk n D B ys il) (H : ZY) : E X 39 [colD n D B] H = some (.bool true, H) := by
  obtain ⟨R, e74, _⟩ := run74c hC (H ++ [.box 53 [.int .i64 n, D, B]])
  rw [Yt (X := X) _ b39 _ rfl rfl]; unfold b39; (repeat (first | rw [ZB] | rw [Ze (by simp [go_sem, e74]; exact ⟨rfl, rfl⟩)] | rw [ZR (by simp [lk, Za, Od.v, e74]; exact rfl)] | rw [Zq] | rw [Zp] | rw [ZJ] | rw [ZU] | rw [ZK] | rw [ZT] | rw [ZM] | rw [ZL] | rw [ZC] | rw [Zs] | rw [Zt] | rw [Zi (by decide)] | rw [Zr] | rw [Zg] | rw [Zh] | rw [Zd (by decide)] | rw [ZX] | rw [ZV (by simp [go_sem, e74]; exact ⟨rfl, rfl⟩)] | rw [ZW (by simp [lk, Za, Od.v, e74]; exact rfl)] | rw [ZS])); simp [Yf, Yg, Yq, go_sem, fin, fz0, fz1, fzT, fzL, nlt, e74]
def rowsN (hold : Nat → Bool) (il : List Nat) (i : Nat) : List Nat := (List.range i).filter fun j => hold (il.getD j 0)
theorem rowsN_succ (hold : Nat → Bool) (il : List Nat) (i : Nat) (h : i < il.length) : rowsN hold il (i + 1) = if hold il[i] = true then rowsN hold il i ++ [i] else rowsN hold il i := by
  have e : il.getD i 0 = il[i] := by rw [List.getD_eq_getElem?_getD, List.getElem?_eq_getElem h]; rfl
  rw [rowsN, List.range_succ, List.filter_append, List.filter_cons, e]
  split <;> simp [rowsN]
theorem rowsN_len (hold : Nat → Bool) (il : List Nat) (i : Nat) : (rowsN hold il i).length ≤ i := by
  have := List.length_filter_le (fun j => hold (il.getD j 0)) (List.range i)
  simpa [rowsN] using this
theorem loop69 {H Hs : ZY} {R T : DV} {il : List Nat} {n f : Nat} {cap : List DV} {hold : Nat → Bool} (hR : ∀ g, vw g 1 R = some (il.map iD)) (hn : il.length = n) (hb : n ≤ 4096) (hF : ∀ G p, E X f (.int .i64 (p : Nat) :: cap) (H ++ G) = some (.bool (hold p), H ++ G)) (hHs : Hs.take H.length = H) :
    ∀ (k i : Nat) (o : DV) (h : ZY), n - i ≤ k → i ≤ n → Grow 3 iD Hs h o (rowsN hold il i) → ∃ y ex o' h', C X (.loop lp69_0) [(1, .func f [] cap), (4, T), (6, .bool true), (7, o), (15, R), (16, .int .i64 n), (17, .int .i64 i)] h = some (.exit 0, (1, .func f [] cap) :: (4, T) :: (6, .bool true) :: (7, o') :: (15, R) :: (16, .int .i64 n) :: (17, y) :: ex, h') ∧ Grow 3 iD Hs h' o' (rowsN hold il n) := by
  intro k
  induction k with
  | zero =>
    intro i o h hk hi hG
    obtain rfl : i = n := by omega
    refine ⟨.int .i64 i, [(18, .bool false)], o, h, ?_, hG⟩
    rw [Yj]
    unfold lp69_0
    (repeat (first | rw [ZB] | rw [Ze (by simp [go_sem]; exact ⟨rfl, rfl⟩)] | rw [ZR (by simp [lk, Za, Od.v]; exact rfl)] | rw [Zq] | rw [Zp] | rw [ZJ] | rw [ZU] | rw [ZK] | rw [ZT] | rw [ZM] | rw [ZL] | rw [ZC] | rw [Zs] | rw [Zt] | rw [Zi (by decide)] | rw [Zr] | rw [Zg] | rw [Zh] | rw [Zd (by decide)] | rw [ZX] | rw [ZV (by simp [go_sem]; exact ⟨rfl, rfl⟩)] | rw [ZW (by simp [lk, Za, Od.v]; exact rfl)] | rw [ZS]))
    rw [Yr]
    simp [Za, lk]
  | succ k ih =>
    intro i o h hk hi hG
    by_cases c : i < n
    · obtain ⟨I, hI⟩ : ∃ I, I = i + 1 := ⟨_, rfl⟩
      have z1 : IntKind.i64.wrap ((i : Int) + 1) = (I : Int) := (by rw [wrap64 _ (by omega) (by omega)]; omega)
      have c' : i < il.length := by omega
      have hrs := rowsN_succ hold il i c'
      rw [← hI] at hrs
      obtain ⟨p, hpp⟩ : ∃ p, p = il[i] := ⟨_, rfl⟩
      have hpp' := hpp.symm
      rw [← hpp] at hrs
      have hpre : h.take H.length = H := by
        have t1 := take_le hHs
        have : h.take H.length = (h.take Hs.length).take H.length := by rw [List.take_take, Nat.min_eq_left t1]
        rw [this, hG.1, hHs]
      have e := hF (h.drop H.length) p
      have hsp : H ++ h.drop H.length = h := by
        have := List.take_append_drop H.length h
        rw [hpre] at this; exact this
      rw [hsp] at e
      have hw0 := hG.vw0
      cases hh : hold p
      · rw [hh] at hrs e
        have hG' : Grow 3 iD Hs h o (rowsN hold il I) := by rw [hrs]; exact hG
        have hs : C X lp69_0 [(1, .func f [] cap), (4, T), (6, .bool true), (7, o), (15, R), (16, .int .i64 n), (17, .int .i64 i)] h = some (.norm, [(1, .func f [] cap), (4, T), (6, .bool true), (7, o), (15, R), (16, .int .i64 n), (17, .int .i64 I)], h) := by
          clear ih hG hG' hrs hF
          unfold lp69_0
          (repeat (first | rw [ZB] | rw [Ze (by simp [go_sem, c, c', z1, hR, hpp', Yw, e]; exact ⟨rfl, rfl⟩)] | rw [ZR (by simp [lk, Za, Od.v, c, c', z1, hR, hpp', Yw, e]; exact rfl)] | rw [Zq] | rw [Zp] | rw [ZJ] | rw [ZU] | rw [ZK] | rw [ZT] | rw [ZM] | rw [ZL] | rw [ZC] | rw [Zs] | rw [Zt] | rw [Zi (by decide)] | rw [Zr] | rw [Zg] | rw [Zh] | rw [Zd (by decide)] | rw [ZX] | rw [ZV (by simp [go_sem, c, c', z1, hR, hpp', Yw, e]; exact ⟨rfl, rfl⟩)] | rw [ZW (by simp [lk, Za, Od.v, c, c', z1, hR, hpp', Yw, e]; exact rfl)] | rw [ZS]))
          simp [Za, lk]
        rw [Yj, hs, Yu]
        exact ih I o h (by omega) (by omega) hG'
      · rw [hh] at hrs e
        have hln := rowsN_len hold il i
        obtain ⟨o2, h2, ha, hG2⟩ := hG.app 8 [i] (by simp; omega)
        have hG' : Grow 3 iD Hs h2 o2 (rowsN hold il I) := by rw [hrs]; exact hG2
        have hs : C X lp69_0 [(1, .func f [] cap), (4, T), (6, .bool true), (7, o), (15, R), (16, .int .i64 n), (17, .int .i64 i)] h = some (.norm, [(1, .func f [] cap), (4, T), (6, .bool true), (7, o2), (15, R), (16, .int .i64 n), (17, .int .i64 I)], h2) := by
          have y1 : ∀ (a : Int) h, eltL [.int .i64 a] h = some ([.int .i64 a], h) := fun _ _ => rfl
          have y2 : ∀ a, Wc 1 (.int .i64 a) := fun a => by simp [Wc, DV.cells, DV.one]
          have y3 : ∀ a, Nr (.int .i64 a) := fun a => .int _ _
          have y4 : ∀ (a : Int) h, srcOf h 1 (.list 1 [.int .i64 a] true) = some [.int .i64 a] := fun _ _ => rfl
          generalize rowsN hold il i = cur at *
          have ha : appx h 3 1 8 o (cur.map iD) [.int .i64 i] = some (o2, h2) := ha
          clear ih hG hG' hG2 hrs hF
          unfold lp69_0
          (repeat (first | rw [ZB] | rw [Ze (by simp [go_sem, c, c', z1, hR, hpp', Yw, e, hw0, ha, y1, y2, y3, y4]; exact ⟨rfl, rfl⟩)] | rw [ZR (by simp [lk, Za, Od.v, c, c', z1, hR, hpp', Yw, e, hw0, ha, y1, y2, y3, y4]; exact rfl)] | rw [Zq] | rw [Zp] | rw [ZJ] | rw [ZU] | rw [ZK] | rw [ZT] | rw [ZM] | rw [ZL] | rw [ZC] | rw [Zs] | rw [Zt] | rw [Zi (by decide)] | rw [Zr] | rw [Zg] | rw [Zh] | rw [Zd (by decide)] | rw [ZX] | rw [ZV (by simp [go_sem, c, c', z1, hR, hpp', Yw, e, hw0, ha, y1, y2, y3, y4]; exact ⟨rfl, rfl⟩)] | rw [ZW (by simp [lk, Za, Od.v, c, c', z1, hR, hpp', Yw, e, hw0, ha, y1, y2, y3, y4]; exact rfl)] | rw [ZS]))
          simp [Za, lk]
        rw [Yj, hs, Yu]
        exact ih I o2 h2 (by omega) (by omega) hG'
    · exact ih i o h (by omega) hi hG
theorem run69 {H : ZY} {n f : Nat} {D B : DV} {ys : List V} {il : List Nat} {cap : List DV} {hold : Nat → Bool} (hC : ColOk n D B ys il) (hF : ∀ G p, E X f (.int .i64 (p : Nat) :: cap) (H ++ G) = some (.bool (hold p), H ++ G)) :
    ∃ W, E X 69 [colD n D B, .func f [] cap] H = some (.agg [W], H) ∧ WL W (ofW (rowsN hold il n)) := by
  obtain ⟨Hs, hHs⟩ : ∃ Hs, Hs = H ++ [HO.box 53 [.int .i64 n, D, B], .box 30 [.nils]] := ⟨_, rfl⟩
  obtain ⟨R, e74, hR⟩ := run74c hC Hs
  obtain ⟨y, ex, o, h2, hc, hG⟩ := loop69 (Hs := Hs) (T := .ref (H.length + 1) 0) hR hC.len hC.nb hF (by rw [hHs]; simp) n 0 .nils Hs (by omega) (by omega) Grow.zero
  rw [show ((0 : Nat) : Int) = 0 from rfl] at hc
  have hnb := hC.nb
  have hln := rowsN_len hold il n
  obtain ⟨W, e11, hW⟩ := run11 (A := o) (l := rowsN hold il n) (H := h2) hG.vw (fun x hx => by
    have := (List.mem_filter.1 hx).1
    rw [List.mem_range] at this; omega) (by omega)
  refine ⟨W, ?_, hW⟩
  have hlen := take_le hG.1
  have hHl : Hs.length = H.length + 2 := by rw [hHs]; simp
  have f1 : h2[H.length + 1]? = some (.box 30 [.nils]) := by rw [take_getH hG.1 (by omega), hHs]; simp [hget]
  have hone : W.one = true := by rcases hW with rfl | ⟨rfl, _⟩ <;> rfl
  have hfin : fin H (h2.set (H.length + 1) (.box 30 [W])) [.agg [W]] = (.agg [W], H) := by
    refine fin_wl hW (take_eq (by simp; omega) (fun i hi => ?_))
    rw [List.getElem?_set_ne (by omega), take_getH hG.1 (by omega), hHs, List.getElem?_append_left hi]
  have f2 : (h2.set (H.length + 1) (.box 30 [W]))[H.length + 1]? = some (.box 30 [W]) := List.getElem?_set_self (by omega)
  generalize hh3 : h2.set (H.length + 1) (.box 30 [W]) = h3 at hfin f2
  subst hHs
  have hlen' := hC.len
  clear hG hW hF
  rw [Yt (X := X) _ b69 _ rfl rfl]; unfold b69
  (repeat (first | rw [ZB] | rw [Ze (by simp [go_sem, e74, hR, hlen']; exact ⟨rfl, rfl⟩)] | rw [ZR (by simp [lk, Za, Od.v, e74, hR, hlen']; exact rfl)] | rw [Zq] | rw [Zp] | rw [ZJ] | rw [ZU] | rw [ZK] | rw [ZT] | rw [ZM] | rw [ZL] | rw [ZC] | rw [Zs] | rw [Zt] | rw [Zi (by decide)] | rw [Zr] | rw [Zg] | rw [Zh] | rw [Zd (by decide)] | rw [ZX] | rw [ZV (by simp [go_sem, e74, hR, hlen']; exact ⟨rfl, rfl⟩)] | rw [ZW (by simp [lk, Za, Od.v, e74, hR, hlen']; exact rfl)] | rw [ZS]))
  (try simp only [Za, List.map_cons, List.map_nil, lk, reduceIte, Nat.reduceEqDiff, Nat.zero_ne_one, Nat.one_ne_zero])
  rw [hc]
  (repeat (first | rw [ZB] | rw [Ze (by simp [go_sem, e11, f1, hone, hh3]; exact ⟨rfl, rfl⟩)] | rw [ZR (by simp [lk, Za, Od.v, e11, f1, hone, hh3]; exact rfl)] | rw [Zq] | rw [Zp] | rw [ZJ] | rw [ZU] | rw [ZK] | rw [ZT] | rw [ZM] | rw [ZL] | rw [ZC] | rw [Zs] | rw [Zt] | rw [Zi (by decide)] | rw [Zr] | rw [Zg] | rw [Zh] | rw [Zd (by decide)] | rw [ZX] | rw [ZV (by simp [go_sem, e11, f1, hone, hh3]; exact ⟨rfl, rfl⟩)] | rw [ZW (by simp [lk, Za, Od.v, e11, f1, hone, hh3]; exact rfl)] | rw [ZS]))
  simp only [Yf, Yq, lk, Za, List.map_cons, List.map_nil, reduceIte, Option.map_some, Nat.reduceEqDiff]
  rw [Zu, f2]
  exact congrArg some hfin
theorem run70 {H : ZY} {a b : Nat} {lo hi : Int} (ha : H[a]? = some (.box 3 [.int .i64 lo])) (hb : H[b]? = some (.box 3 [.int .i64 hi])) (p : Nat) : E X 70 [.int .i64 p, .ref a 0, .ref b 0] H = some (.bool (decide (lo ≤ (p : Int)) && decide ((p : Int) < hi)), H) := by
  by_cases c : lo ≤ (p : Int)
  · rw [Yt (X := X) _ b70 _ rfl rfl]; unfold b70; (repeat (first | rw [ZB] | rw [Ze (by simp [go_sem, ha, hb, c]; exact ⟨rfl, rfl⟩)] | rw [ZR (by simp [lk, Za, Od.v, ha, hb, c]; exact rfl)] | rw [Zq] | rw [Zp] | rw [ZJ] | rw [ZU] | rw [ZK] | rw [ZT] | rw [ZM] | rw [ZL] | rw [ZC] | rw [Zs] | rw [Zt] | rw [Zi (by decide)] | rw [Zr] | rw [Zg] | rw [Zh] | rw [Zd (by decide)] | rw [ZX] | rw [ZV (by simp [go_sem, ha, hb, c]; exact ⟨rfl, rfl⟩)] | rw [ZW (by simp [lk, Za, Od.v, ha, hb, c]; exact rfl)] | rw [ZS])); simp [Yf, Yg, Yq, go_sem, fin, fz0, fz1, fzT, fzL, nlt, ha, hb, c]
  · rw [Yt (X := X) _ b70 _ rfl rfl]; unfold b70; (repeat (first | rw [ZB] | rw [Ze (by simp [go_sem, ha, hb, c]; exact ⟨rfl, rfl⟩)] | rw [ZR (by simp [lk, Za, Od.v, ha, hb, c]; exact rfl)] | rw [Zq] | rw [Zp] | rw [ZJ] | rw [ZU] | rw [ZK] | rw [ZT] | rw [ZM] | rw [ZL] | rw [ZC] | rw [Zs] | rw [Zt] | rw [Zi (by decide)] | rw [Zr] | rw [Zg] | rw [Zh] | rw [Zd (by decide)] | rw [ZX] | rw [ZV (by simp [go_sem, ha, hb, c]; exact ⟨rfl, rfl⟩)] | rw [ZW (by simp [lk, Za, Od.v, ha, hb, c]; exact rfl)] | rw [ZS])); simp [Yf, Yg, Yq, go_sem, fin, fz0, fz1, fzT, fzL, nlt, ha, hb, c]
theorem run28 {H : ZY} {n : Nat} {D B : DV} {ys : List V} {il : List Nat} (hC : ColOk n D B ys il) (lo hi : Int) :
    ∃ W, E X 28 [colD n D B, .int .i64 lo, .int .i64 hi] H = some (.agg [W], H) ∧ WL W (ofW (rowsN (fun p => decide (lo ≤ (p : Int)) && decide ((p : Int) < hi)) il n)) := by
  obtain ⟨Hs, hHs⟩ : ∃ Hs, Hs = H ++ [HO.box 53 [.int .i64 n, D, B], .box 3 [.int .i64 lo], .box 3 [.int .i64 hi], .box 30 [.nils]] := ⟨_, rfl⟩
  obtain ⟨W, e69, hW⟩ := run69 (H := Hs) (f := 70) (cap := [.ref (H.length + 1) 0, .ref (H.length + 2) 0]) hC (hold := fun p => decide (lo ≤ (p : Int)) && decide ((p : Int) < hi)) (fun G p => run70 (by subst hHs; rw [List.getElem?_append_left (by simp)]; simp [hget]) (by subst hHs; rw [List.getElem?_append_left (by simp)]; simp [hget]) p)
  refine ⟨W, ?_, hW⟩
  subst hHs
  have hone : W.one = true := by rcases hW with rfl | ⟨rfl, _⟩ <;> rfl
  have hfin : fin H (H ++ [HO.box 53 [.int .i64 n, D, B], .box 3 [.int .i64 lo], .box 3 [.int .i64 hi], .box 30 [W]]) [.agg [W]] = (.agg [W], H) := fin_wl hW (by simp)
  have f2 : (H ++ [HO.box 53 [.int .i64 n, D, B], .box 3 [.int .i64 lo], .box 3 [.int .i64 hi], .box 30 [W]])[H.length + 3]? = some (.box 30 [W]) := by simp [hget]
  rw [Yt (X := X) _ b28 _ rfl rfl]; unfold b28
  (repeat (first | rw [ZB] | rw [Ze (by simp [go_sem, e69, hone]; exact ⟨rfl, rfl⟩)] | rw [ZR (by simp [lk, Za, Od.v, e69, hone]; exact rfl)] | rw [Zq] | rw [Zp] | rw [ZJ] | rw [ZU] | rw [ZK] | rw [ZT] | rw [ZM] | rw [ZL] | rw [ZC] | rw [Zs] | rw [Zt] | rw [Zi (by decide)] | rw [Zr] | rw [Zg] | rw [Zh] | rw [Zd (by decide)] | rw [ZX] | rw [ZV (by simp [go_sem, e69, hone]; exact ⟨rfl, rfl⟩)] | rw [ZW (by simp [lk, Za, Od.v, e69, hone]; exact rfl)] | rw [ZS]))
  simp only [Yf, Yq, lk, Za, List.map_cons, List.map_nil, reduceIte, Option.map_some, Nat.reduceEqDiff]
  rw [Zu, f2]
  exact congrArg some hfin
def vJ (i : Int) : V := ⟨1, i, ⟨#[]⟩, false⟩
theorem run57 (i : Int) (H : ZY) : E X 57 [.int .i64 i] H = some (.agg [.int .i64 1, .int .i64 i, .str ⟨#[]⟩, .bool false], H) := by
  rw [Yt (X := X) _ b57 _ rfl rfl]; unfold b57; (repeat (first | rw [ZB] | rw [Ze (by simp [go_sem]; exact ⟨rfl, rfl⟩)] | rw [ZR (by simp [lk, Za, Od.v]; exact rfl)] | rw [Zq] | rw [Zp] | rw [ZJ] | rw [ZU] | rw [ZK] | rw [ZT] | rw [ZM] | rw [ZL] | rw [ZC] | rw [Zs] | rw [Zt] | rw [Zi (by decide)] | rw [Zr] | rw [Zg] | rw [Zh] | rw [Zd (by decide)] | rw [ZX] | rw [ZV (by simp [go_sem]; exact ⟨rfl, rfl⟩)] | rw [ZW (by simp [lk, Za, Od.v]; exact rfl)] | rw [ZS])); simp [Yf, Yg, Yq, go_sem, fin, fz0, fz1, fzT, fzL, nlt]
theorem ord73 : ord (vJ 3) (vJ 7) < 0 := by decide
theorem up37 : Up [vJ 3, vJ 7] := by
  refine List.Pairwise.cons (fun x hx => ?_) (List.pairwise_singleton _ _)
  simp at hx; subst hx; exact ord73
theorem il37 : [vJ 7, vJ 3, vJ 7].map (place [vJ 3, vJ 7]) = [1, 0, 1] := by
  have h3 : place [vJ 3, vJ 7] (vJ 3) = 0 := up_place up37 rfl
  have h7 : place [vJ 3, vJ 7] (vJ 7) = 1 := up_place up37 rfl
  simp [h3, h7]
theorem pk37 : pack [1, 0, 1] (wC 2) = [5] := by decide
theorem col37 : ColOk 3 (.list 4 ([vJ 3, vJ 7].map V.d) false) (.list 1 [bD 5] false) [vJ 3, vJ 7] [1, 0, 1] where
  dict := .inl rfl
  up := up37
  may := by
    intro x hx
    simp at hx
    rcases hx with rfl | rfl <;> rfl
  yb := by simp
  bytes := .inr (by
    have : ([vJ 3, vJ 7] : List V).length = 2 := rfl
    rw [this, pk37]; rfl)
  len := rfl
  nb := by omega
  mem := by intro p; simp; omega
theorem bits02 : bitsOf (ofW [0, 2]) 0 = [0, 2] := by
  rw [bitsOf_sup (n := 3) (fun i hi => by rw [bit_of]; simp; omega)]
  have : (List.range 3).filter (bit (ofW [0, 2])) = (List.range 3).filter (fun i => decide (i ∈ [0, 2])) := List.filter_congr fun i _ => bit_of _ _
  rw [this]
  decide
set_option maxHeartbeats 1000000 in
theorem run21 (H : ZY) : E X 21 [] H = some (.bool true, H) := by
  have e57 := run57
  have e23 : E X 23 [.list 4 [.agg [.int .i64 1, .int .i64 7, .str ⟨#[]⟩, .bool false], .agg [.int .i64 1, .int .i64 3, .str ⟨#[]⟩, .bool false], .agg [.int .i64 1, .int .i64 7, .str ⟨#[]⟩, .bool false]] true] H = some (.tup [colD 3 (.list 4 [.agg [.int .i64 1, .int .i64 3, .str ⟨#[]⟩, .bool false], .agg [.int .i64 1, .int .i64 7, .str ⟨#[]⟩, .bool false]] false) (.list 1 [.int .u8 5] false), .int .i64 0], H) := by
    rcases run23 (H := H) (A := .list 4 ([vJ 7, vJ 3, vJ 7].map V.d) true) (ls := [vJ 7, vJ 3, vJ 7]) (fun _ => rfl) (by simp) with ⟨S, ys, h1, hS, hU, hm, _, _⟩ | ⟨_, v, hv, hv2⟩
    · have hys : ys = [vJ 3, vJ 7] := up_ext _ _ hU up37 (fun v => by rw [hm]; simp; intro h; exact .inr h)
      subst hys
      rw [il37] at h1
      have hl : ([vJ 3, vJ 7] : List V).length = 2 := rfl
      rw [hl, pk37] at h1
      rcases hS with rfl | ⟨_, h⟩
      · exact h1
      · cases h
    · exfalso
      simp at hv
      rcases hv with rfl | rfl | rfl <;> cases hv2
  have e33 : ∀ g, E X 33 [.list 4 [.agg [.int .i64 1, .int .i64 3, .str ⟨#[]⟩, .bool false], .agg [.int .i64 1, .int .i64 7, .str ⟨#[]⟩, .bool false]] false, .list 4 [.agg [.int .i64 1, .int .i64 3, .str ⟨#[]⟩, .bool false], .agg [.int .i64 1, .int .i64 7, .str ⟨#[]⟩, .bool false]] true] g = some (.bool true, g) := fun g => run33x (xs := [vJ 3, vJ 7]) rfl rfl (by simp)
  have e38 : ∀ g, E X 38 [.list 1 [.int .u8 5] false, .list 1 [.int .u8 5] true] g = some (.bool true, g) := fun g => run38 (bs := [5]) rfl rfl (by simp)
  have e39 := fun g => run39 col37 g
  obtain ⟨W, e28, hW⟩ := run28 (H := H ++ [HO.box 53 [.int .i64 3, .list 4 ([vJ 3, vJ 7].map V.d) false, .list 1 [bD 5] false]]) col37 1 2
  have hrw : rowsN (fun p => decide ((1 : Int) ≤ (p : Int)) && decide ((p : Int) < 2)) [1, 0, 1] 3 = [0, 2] := by decide
  rw [hrw] at hW
  have e18 := fun g => run18 hW (ofW_WB _) (by decide) g
  rw [bits02] at e18
  have e18 : ∀ g, E X 18 [.agg [W], .int .i64 (-1)] g = some (.fresh 3 1 [.int .i64 0, .int .i64 2], g) := e18
  have e17 : ∀ g, E X 17 [.row g.length 0 0 2 false, .list 1 [.int .i64 0, .int .i64 2] true] (g ++ [.row 3 1 0 [.int .i64 0, .int .i64 2]]) = some (.bool true, g ++ [.row 3 1 0 [.int .i64 0, .int .i64 2]]) := fun g => by
    have := run17 (h := g ++ [.row 3 1 0 [.int .i64 0, .int .i64 2]]) (A := .row g.length 0 0 2 false) (B := .list 1 [.int .i64 0, .int .i64 2] true) (xs := [0, 2]) (ys := [0, 2]) (by simp [vw]) rfl (by simp)
    simpa using this
  have e17 := e17 (H ++ [HO.box 53 [.int .i64 3, .list 4 [.agg [.int .i64 1, .int .i64 3, .str ⟨#[]⟩, .bool false], .agg [.int .i64 1, .int .i64 7, .str ⟨#[]⟩, .bool false]] false, .list 1 [.int .u8 5] false]])
  simp only [List.length_append, List.length_cons, List.length_nil, List.append_assoc, List.cons_append, List.nil_append, Nat.zero_add] at e17
  have e28 : E X 28 [.agg [.int .i64 3, .list 4 [.agg [.int .i64 1, .int .i64 3, .str ⟨#[]⟩, .bool false], .agg [.int .i64 1, .int .i64 7, .str ⟨#[]⟩, .bool false]] false, .list 1 [.int .u8 5] false], .int .i64 1, .int .i64 2] (H ++ [HO.box 53 [.int .i64 3, .list 4 [.agg [.int .i64 1, .int .i64 3, .str ⟨#[]⟩, .bool false], .agg [.int .i64 1, .int .i64 7, .str ⟨#[]⟩, .bool false]] false, .list 1 [.int .u8 5] false]]) = some (.agg [W], H ++ [HO.box 53 [.int .i64 3, .list 4 [.agg [.int .i64 1, .int .i64 3, .str ⟨#[]⟩, .bool false], .agg [.int .i64 1, .int .i64 7, .str ⟨#[]⟩, .bool false]] false, .list 1 [.int .u8 5] false]]) := e28
  have e39 : ∀ g, E X 39 [.agg [.int .i64 3, .list 4 [.agg [.int .i64 1, .int .i64 3, .str ⟨#[]⟩, .bool false], .agg [.int .i64 1, .int .i64 7, .str ⟨#[]⟩, .bool false]] false, .list 1 [.int .u8 5] false]] g = some (.bool true, g) := e39
  have hone : W.one = true := by rcases hW with rfl | ⟨rfl, _⟩ <;> rfl
  have y1 : ∀ a b c k n s t k' n' s' t' h, eltL [.agg [.int .i64 a, .int .i64 b, .str c, .bool k], .agg [.int .i64 n, .int .i64 s, .str t, .bool k'], .agg [.int .i64 n', .int .i64 s', .str t', .bool h]] = fun H => some ([.agg [.int .i64 a, .int .i64 b, .str c, .bool k], .agg [.int .i64 n, .int .i64 s, .str t, .bool k'], .agg [.int .i64 n', .int .i64 s', .str t', .bool h]], H) := fun _ _ _ _ _ _ _ _ _ _ _ _ => rfl
  have y1' : ∀ a b c k n s t k', eltL [.agg [.int .i64 a, .int .i64 b, .str c, .bool k], .agg [.int .i64 n, .int .i64 s, .str t, .bool k']] = fun H => some ([.agg [.int .i64 a, .int .i64 b, .str c, .bool k], .agg [.int .i64 n, .int .i64 s, .str t, .bool k']], H) := fun _ _ _ _ _ _ _ _ => rfl
  have y2 : ∀ k n s t, Wc 4 (.agg [.int .i64 k, .int .i64 n, .str s, .bool t]) := fun k n s t => by simp [Wc, DV.cells, DV.one]
  have y3 : ∀ k n s t, Nr (.agg [.int .i64 k, .int .i64 n, .str s, .bool t]) := fun k n s t => (V.mk k n s t).nr
  have y4 : ∀ (a : IntKind) (b : Int) h, eltL [.int a b] h = some ([.int a b], h) := fun _ _ _ => rfl
  have y5 : ∀ (a : IntKind) (b c : Int) h, eltL [.int a b, .int a c] h = some ([.int a b, .int a c], h) := fun _ _ _ _ => rfl
  have y6 : ∀ k a, Wc 1 (.int k a) := fun k a => by simp [Wc, DV.cells, DV.one]
  have y7 : ∀ k a, Nr (.int k a) := fun k a => .int _ _
  clear hW
  rw [Yt (X := X) _ b21 _ rfl rfl]; unfold b21
  (repeat (first | rw [ZB] | rw [Ze (by simp [go_sem, e57, e23, e33, e38, e39, e28, e18, e17, hone, y1, y1', y2, y3, y4, y5, y6, y7]; exact ⟨rfl, rfl⟩)] | rw [ZR (by simp [lk, Za, Od.v, e57, e23, e33, e38, e39, e28, e18, e17, hone, y1, y1', y2, y3, y4, y5, y6, y7]; exact rfl)] | rw [Zq] | rw [Zp] | rw [ZJ] | rw [ZU] | rw [ZK] | rw [ZT] | rw [ZM] | rw [ZL] | rw [ZC] | rw [Zs] | rw [Zt] | rw [Zi (by decide)] | rw [Zr] | rw [Zg] | rw [Zh] | rw [Zd (by decide)] | rw [ZX] | rw [ZV (by simp [go_sem, e57, e23, e33, e38, e39, e28, e18, e17, hone, y1, y1', y2, y3, y4, y5, y6, y7]; exact ⟨rfl, rfl⟩)] | rw [ZW (by simp [lk, Za, Od.v, e57, e23, e33, e38, e39, e28, e18, e17, hone, y1, y1', y2, y3, y4, y5, y6, y7]; exact rfl)] | rw [ZS]))
  simp [Yf, Yg, Yq, go_sem, fin, fz0, fz1, fzT, fzL, nlt, e39]
theorem BytesL.one {R : DV} {bs : List Nat} (h : BytesL R bs) : R.one = true := by
  rcases h with ⟨rfl, _⟩ | rfl <;> rfl
end Go.Proofs.YtebjndbigoddnaaDoor
