/- Ideal runs. -/
import Derived.Test.YteekbciaggmfgaaDoorColA
import Derived.Test.YteekbciaggmfgaaDoorStep
import Derived.Test.YteekbciaggmfgaaDoorPlainQ
import Derived.Test.YteekbciaggmfgaaDoorNod
namespace Go.Proofs.YteekbciaggmfgaaDoor
set_option linter.unusedVariables false
set_option linter.unusedSimpArgs false
set_option maxRecDepth 10000
def eW (bs : List Nat) (w i : Nat) : Nat → Nat
 | 0 => 0
 | k + 1 => eW bs w i k ||| (bs.getD ((i * w + k) / 8) 0 / 2 ^ ((i * w + k) % 8) % 2) * 2 ^ k
theorem E7 (bs : List Nat) (q : Nat) : decide (bs.getD (q / 8) 0 / 2 ^ (q % 8) % 2 = 1) = eD bs q := by rw [zu]; rfl
theorem Fy {c k : Nat} (hc : c ≤ 1) (j : Nat) : (c * 2 ^ k).testBit j = (decide (j = k) && decide (c = 1)) := by
 rcases (by omega : c = 0 ∨ c = 1) with rfl | rfl
 ·simp
 ·rw [Nat.one_mul, Nat.testBit_two_pow]
  simp [eq_comm]
theorem mK (bs : List Nat) (w i : Nat) : ∀ (k j : Nat), (eW bs w i k).testBit j = (decide (j < k) && eD bs (i * w + j))
 | 0, j => by simp [eW]
 | k + 1, j => by
  rw [eW, Nat.testBit_or, mK bs w i k j, Fy (by omega), E7]
  by_cases h1 : j = k
  ·subst h1; simp
  ·by_cases h2 : j < k
   ·have h3 : j < k + 1 := by omega
    simp [h1, h2, h3]
   ·have h3 : ¬ j < k + 1 := by omega
    simp [h1, h2, h3]
theorem sj (bs : List Nat) (w i : Nat) : ∀ k, eW bs w i k < 2 ^ k
 | 0 => by simp [eW]
 | k + 1 => by
  have h1 := sj bs w i k
  rw [eW]
  have h2 : bs.getD ((i * w + k) / 8) 0 / 2 ^ ((i * w + k) % 8) % 2 ≤ 1 := by omega
  generalize bs.getD ((i * w + k) / 8) 0 / 2 ^ ((i * w + k) % 8) % 2 = c at *
  have h3 : 2 ^ (k + 1) = 2 ^ k + 2 ^ k := by rw [Nat.pow_succ]; omega
  have h4 : c * 2 ^ k ≤ 1 * 2 ^ k := Nat.mul_le_mul_right (2 ^ k) h2
  apply Nat.or_lt_two_pow
  ·omega
  ·omega
theorem KT (n : Nat) : n < 2 ^ wN n := by
 induction n using Nat.strongRecOn with
 | _ n ih =>
  rcases Nat.eq_zero_or_pos n with rfl | hp
  ·exact Nat.two_pow_pos _
  ·rw [lz n hp, Nat.pow_succ]
   have := ih (n / 2) (by omega)
   omega
theorem tr (l : List Nat) (w i : Nat) (h : i < l.length) (hw : wN l[i] ≤ w) : eW (pack l w) w i w = l[i] := by
 apply Nat.eq_of_testBit_eq
 intro j
 rw [mK, qd]
 have hlt : l[i] < 2 ^ w := Nat.lt_of_lt_of_le (KT _) (Nat.pow_le_pow_right (by omega) hw)
 by_cases c : j < w
 ·have h1 : i * w + j < l.length * w := by
   have : i * w + w ≤ l.length * w := by rw [← Nat.succ_mul]; exact Nat.mul_le_mul_right w h
   omega
  have h2 : (i * w + j) / w = i := by
   rw [Nat.mul_comm, Nat.mul_add_div (by omega), Nat.div_eq_of_lt c, Nat.add_zero]
  have h3 : (i * w + j) % w = j := by
   rw [Nat.mul_comm, Nat.mul_add_mod, Nat.mod_eq_of_lt c]
  rw [h2, h3, List.getD_eq_getElem?_getD, List.getElem?_eq_getElem h]
  simp [c, h1]
 ·rw [Nat.testBit_lt_two_pow (Nat.lt_of_lt_of_le hlt (Nat.pow_le_pow_right (by omega) (by omega)))]
  simp [c]
def nh (H : Zb) (L : DV) (x : Nat) : Zb := H ++ [.box 23 [L], .box 3 [.int .i64 x]]
theorem Kj {H : Zb} {L : DV} {bs : List Nat} (hL : ∀ g, vw g 1 L = some (bs.map bD)) (bb : BB bs) {x a k : Nat} (ha : a / 8 < bs.length) (ha' : a < 10000000) (hk : k ≤ 61) (hx : x < 2 ^ k) :
 E X 78 [.int .i64 a, .int .i64 k, .ref (H.length + 1) 0, .ref H.length 0] (nh H L x) = some (.tup [], nh H L (x ||| (bs.getD (a / 8) 0 / 2 ^ (a % 8) % 2) * 2 ^ k)) := by
 obtain ⟨p, hp⟩ : ∃ p, p = a / 8 := ⟨_, rfl⟩
 obtain ⟨j, hj⟩ : ∃ j, j = a % 8 := ⟨_, rfl⟩
 have hp' : p < bs.length := by omega
 have e1 : bs.getD p 0 = bs[p] := by rw [List.getD_eq_getElem?_getD, List.getElem?_eq_getElem hp']; rfl
 have hb := bb _ (List.getElem_mem hp')
 rw [← hp, ← hj, e1]
 obtain ⟨b, hbb⟩ : ∃ b, b = bs[p] := ⟨_, rfl⟩
 have sC := hbb.symm
 rw [← hbb] at hb ⊢
 obtain ⟨q, hq⟩ : ∃ q, q = b / 2 ^ j := ⟨_, rfl⟩
 obtain ⟨c, hc⟩ : ∃ c, c = q % 2 := ⟨_, rfl⟩
 rw [← hq, ← hc]
 have hc1 : c ≤ 1 := by omega
 have Pf : q ≤ b := by rw [hq]; exact Nat.div_le_self _ _
 have vm : c * 2 ^ k < 2 ^ 62 := by
  have h1 : 2 ^ k ≤ 2 ^ 61 := Nat.pow_le_pow_right (by omega) hk
  have h2 : c * 2 ^ k ≤ 1 * 2 ^ 61 := Nat.mul_le_mul hc1 h1
  have h3 : (2 : Nat) ^ 62 = 2 * 2 ^ 61 := by decide
  have h4 : 0 < (2 : Nat) ^ 61 := Nat.two_pow_pos _
  omega
 have HZ : x < 2 ^ 62 := Nat.lt_of_lt_of_le hx (Nat.pow_le_pow_right (by omega) (by omega))
 have Ig : x ||| c * 2 ^ k < 2 ^ 62 := Nat.or_lt_two_pow HZ vm
 have OL : (2 : Nat) ^ 62 = 4611686018427387904 := by decide
 rw [OL] at vm HZ Ig
 have f1 : (nh H L x)[H.length]? = some (.box 23 [L]) := by simp [nh]
 have f2 : (nh H L x)[H.length + 1]? = some (.box 3 [.int .i64 x]) := by simp [nh, ae]
 have f3 : ∀ y, (nh H L x).set (H.length + 1) (.box 3 [.int .i64 y]) = H ++ [.box 23 [L], .box 3 [.int .i64 y]] := fun y => by simp [nh, ZX]
 have f5 : fin (nh H L x) (nh H L (x ||| c * 2 ^ k)) [] = _ := Dm (by simp [nh])
 have f6 : H ++ [.box 23 [L], .box 3 [.int .i64 (x ||| c * 2 ^ k : Nat)]] = nh H L (x ||| c * 2 ^ k) := rfl
 have z1 : IntKind.i64.wrap ((a : Int) / 8) = (p : Int) := wr
 have z2 : ((a : Int)).tmod 8 = (j : Int) := by rw [Int.tmod_eq_emod_of_nonneg (by omega)]; omega
 have z3 : ((b : Int)).fdiv (2 ^ min j IntKind.u8.bits) = (q : Int) := by
  rw [show min j IntKind.u8.bits = j from Nat.min_eq_left (by simp [IntKind.bits]; omega), show (2 : Int) ^ j = ((2 ^ j : Nat) : Int) by simp, Int.fdiv_eq_ediv_of_nonneg _ (Int.natCast_nonneg _), hq]
  rfl
 have z4 : IntKind.u8.wrap ((q % 2 ^ IntKind.u8.bits &&& 1 % 2 ^ IntKind.u8.bits : Nat) : Int) = (c : Int) := by
  rw [show 2 ^ IntKind.u8.bits = 256 from rfl, Nat.mod_eq_of_lt (by omega), show 1 % 256 = 2 ^ 1 - 1 from rfl, Nat.and_two_pow_sub_one_eq_mod, gb (by omega), hc]
 have z5 : IntKind.i64.wrap (c : Int) = (c : Int) := wrap64 _ (by omega) (by omega)
 have z6 : IntKind.i64.wrap ((c : Int) * 2 ^ min k IntKind.i64.bits) = ((c * 2 ^ k : Nat) : Int) := by
  rw [show min k IntKind.i64.bits = k from Nat.min_eq_left (by simp [IntKind.bits]; omega), show (2 : Int) ^ k = ((2 ^ k : Nat) : Int) by simp, ← Int.natCast_mul, wrap64 _ (by omega) (by omega)]
 have d0 : ¬ (j : Int) < 0 := by omega
 have d1 : ¬ (k : Int) < 0 := by omega
 generalize c * 2 ^ k = ck at *
 have z7 : IntKind.i64.wrap ((x % 2 ^ IntKind.i64.bits ||| ck % 2 ^ IntKind.i64.bits : Nat) : Int) = ((x ||| ck : Nat) : Int) := by
  rw [show 2 ^ IntKind.i64.bits = 18446744073709551616 from rfl, Nat.mod_eq_of_lt (by omega), Nat.mod_eq_of_lt (by omega), wrap64 _ (by omega) (by omega)]
 have EO := hL (nh H L x)
 generalize x ||| ck = ob at *
 generalize nh H L ob = P2 at *
 generalize nh H L x = P1 at *
 rw [ZO (X := X) _ Jv _ rfl rfl]; unfold Jv
 (repeat (first | rw [ZL] | rw [Zs (by simp [ZF, Zy, ZA, ZB, Zp, Zf, Zm, Zi, Zk, Zc, Zd, Zj, Zq, Zr, ZC, ↓Zh, Zo, Zg, Zz, Zu, Zt, ZR, Zv, Yj, put, lk, Od.v, Za, Ze, Zl, Yv, Yb, Ya, Yd, ai, Yt, DV.isU, DV.cells, ae, ZJ, ZX, ZK, Zn, splice, DV.one, ZM, af, ZT, Ys, f1, f2, f3, f6, EO, z1, z2, z3, z4, z5, z6, z7, d0, d1, ay, hp', sC]; exact ⟨rfl, rfl⟩)] | rw [Yi (by simp [lk, Za, Od.v, f1, f2, f3, f6, EO, z1, z2, z3, z4, z5, z6, z7, d0, d1, ay, hp', sC]; exact rfl)] | rw [Zu] | rw [Zt] | rw [ZY] | rw [Yo] | rw [Ye] | rw [Yl] | rw [Yg] | rw [Yf] | rw [ZU] | rw [ZP] | rw [ZQ] | rw [ZI (by decide)] | rw [ZN] | rw [ZG] | rw [ZH] | rw [ZE (by decide)] | rw [Yq] | rw [Ym (by simp [ZF, Zy, ZA, ZB, Zp, Zf, Zm, Zi, Zk, Zc, Zd, Zj, Zq, Zr, ZC, ↓Zh, Zo, Zg, Zz, Zu, Zt, ZR, Zv, Yj, put, lk, Od.v, Za, Ze, Zl, Yv, Yb, Ya, Yd, ai, Yt, DV.isU, DV.cells, ae, ZJ, ZX, ZK, Zn, splice, DV.one, ZM, af, ZT, Ys, f1, f2, f3, f6, EO, z1, z2, z3, z4, z5, z6, z7, d0, d1, ay, hp', sC]; exact ⟨rfl, rfl⟩)] | rw [Yp (by simp [lk, Za, Od.v, f1, f2, f3, f6, EO, z1, z2, z3, z4, z5, z6, z7, d0, d1, ay, hp', sC]; exact rfl)] | rw [Yk]))
 rw [ZV]
 simp only [Yc, Option.map_some, f5]
theorem Eh {H : Zb} {L : DV} {bs : List Nat} (hB : aC L bs) (bb : BB bs) {w i : Nat} (hw : w ≤ 62) (hi : i ≤ 100000) (hlen : i * w + w ≤ 8 * bs.length) :
 E X 54 [L, .int .i64 i, .int .i64 w] H = some (.int .i64 (eW bs w i w : Nat), H) := by
 have hmul : i * w ≤ 100000 * 62 := Nat.mul_le_mul hi hw
 have gE := Ec (f := 78) (w := w) (i := i) (cap := [.ref (H.length + 1) 0, .ref H.length 0]) (S := fun k => nh H L (eW bs w i k)) hw hi
  (fun k hk => Kj hB.vw bb (by omega) (by omega) (by omega) (sj bs w i k)) (by simp [nh])
 simp only [nh, eW] at gE
 generalize eW bs w i w = r at *
 have gE : E X 72 [.int .i64 i, .int .i64 w, .func 78 [] [.ref (H.length + 1) 0, .ref H.length 0]] (H ++ [.box 23 [L], .box 3 [.int .i64 0]]) = some (.tup [], H ++ [.box 23 [L], .box 3 [.int .i64 r]]) := gE
 rcases hB with ⟨rfl, rfl⟩ | rfl
 ·rw [ZO (X := X) _ BV _ rfl rfl]; unfold BV; (repeat (first | rw [ZL] | rw [Zs (by simp [ZF, Zy, ZA, ZB, Zp, Zf, Zm, Zi, Zk, Zc, Zd, Zj, Zq, Zr, ZC, ↓Zh, Zo, Zg, Zz, Zu, Zt, ZR, Zv, Yj, put, lk, Od.v, Za, Ze, Zl, Yv, Yb, Ya, Yd, ai, Yt, DV.isU, DV.cells, ae, ZJ, ZX, ZK, Zn, splice, DV.one, ZM, af, ZT, Ys, gE]; exact ⟨rfl, rfl⟩)] | rw [Yi (by simp [lk, Za, Od.v, gE]; exact rfl)] | rw [Zu] | rw [Zt] | rw [ZY] | rw [Yo] | rw [Ye] | rw [Yl] | rw [Yg] | rw [Yf] | rw [ZU] | rw [ZP] | rw [ZQ] | rw [ZI (by decide)] | rw [ZN] | rw [ZG] | rw [ZH] | rw [ZE (by decide)] | rw [Yq] | rw [Ym (by simp [ZF, Zy, ZA, ZB, Zp, Zf, Zm, Zi, Zk, Zc, Zd, Zj, Zq, Zr, ZC, ↓Zh, Zo, Zg, Zz, Zu, Zt, ZR, Zv, Yj, put, lk, Od.v, Za, Ze, Zl, Yv, Yb, Ya, Yd, ai, Yt, DV.isU, DV.cells, ae, ZJ, ZX, ZK, Zn, splice, DV.one, ZM, af, ZT, Ys, gE]; exact ⟨rfl, rfl⟩)] | rw [Yp (by simp [lk, Za, Od.v, gE]; exact rfl)] | rw [Yk])); simp [Zw, ZV, Yc, ZF, Zy, ZA, ZB, Zp, Zf, Zm, Zi, Zk, Zc, Zd, Zj, Zq, Zr, ZC, ↓Zh, Zo, Zg, Zz, Zu, Zt, ZR, Zv, Yj, put, lk, Od.v, Za, Ze, Zl, Yv, Yb, Ya, Yd, ai, Yt, DV.isU, DV.cells, ae, ZJ, ZX, ZK, Zn, splice, DV.one, ZM, af, ZT, Ys, fin, aV, aO, bH, cL, dD, gE]
 ·rw [ZO (X := X) _ BV _ rfl rfl]; unfold BV; (repeat (first | rw [ZL] | rw [Zs (by simp [ZF, Zy, ZA, ZB, Zp, Zf, Zm, Zi, Zk, Zc, Zd, Zj, Zq, Zr, ZC, ↓Zh, Zo, Zg, Zz, Zu, Zt, ZR, Zv, Yj, put, lk, Od.v, Za, Ze, Zl, Yv, Yb, Ya, Yd, ai, Yt, DV.isU, DV.cells, ae, ZJ, ZX, ZK, Zn, splice, DV.one, ZM, af, ZT, Ys, gE]; exact ⟨rfl, rfl⟩)] | rw [Yi (by simp [lk, Za, Od.v, gE]; exact rfl)] | rw [Zu] | rw [Zt] | rw [ZY] | rw [Yo] | rw [Ye] | rw [Yl] | rw [Yg] | rw [Yf] | rw [ZU] | rw [ZP] | rw [ZQ] | rw [ZI (by decide)] | rw [ZN] | rw [ZG] | rw [ZH] | rw [ZE (by decide)] | rw [Yq] | rw [Ym (by simp [ZF, Zy, ZA, ZB, Zp, Zf, Zm, Zi, Zk, Zc, Zd, Zj, Zq, Zr, ZC, ↓Zh, Zo, Zg, Zz, Zu, Zt, ZR, Zv, Yj, put, lk, Od.v, Za, Ze, Zl, Yv, Yb, Ya, Yd, ai, Yt, DV.isU, DV.cells, ae, ZJ, ZX, ZK, Zn, splice, DV.one, ZM, af, ZT, Ys, gE]; exact ⟨rfl, rfl⟩)] | rw [Yp (by simp [lk, Za, Od.v, gE]; exact rfl)] | rw [Yk])); simp [Zw, ZV, Yc, ZF, Zy, ZA, ZB, Zp, Zf, Zm, Zi, Zk, Zc, Zd, Zj, Zq, Zr, ZC, ↓Zh, Zo, Zg, Zz, Zu, Zt, ZR, Zv, Yj, put, lk, Od.v, Za, Ze, Zl, Yv, Yb, Ya, Yd, ai, Yt, DV.isU, DV.cells, ae, ZJ, ZX, ZK, Zn, splice, DV.one, ZM, af, ZT, Ys, fin, aV, aO, bH, cL, dD, gE]
def rh (H : Zb) (cur : List Nat) : Zb := H ++ [.row 3 1 0 (cur.map iD)]
theorem Aa (l : List Nat) (w : Nat) (h : 0 < l.length * w % 8) : (pack l w).getD ((l.length * w + 7) / 8 - 1) 0 < 2 ^ (l.length * w % 8) := by
 apply Nat.lt_pow_two_of_testBit
 intro j hj
 by_cases c : j < 8
 ·have := qd l w (8 * ((l.length * w + 7) / 8 - 1) + j)
  unfold eD at this
  rw [show (8 * ((l.length * w + 7) / 8 - 1) + j) / 8 = (l.length * w + 7) / 8 - 1 by omega, show (8 * ((l.length * w + 7) / 8 - 1) + j) % 8 = j by omega] at this
  rw [this]
  have : ¬ 8 * ((l.length * w + 7) / 8 - 1) + j < l.length * w := by omega
  simp [this]
 ·have hb := (po l w).getD ((l.length * w + 7) / 8 - 1)
  have hp : 256 ≤ 2 ^ j := Nat.le_trans (by decide : 256 ≤ 2 ^ 8) (Nat.pow_le_pow_right (by omega) (by omega))
  exact Nat.testBit_lt_two_pow (by omega)
theorem Hj {H : Zb} {L : DV} {l : List Nat} {w n : Nat} (hB : aC L (pack l w)) (hw : w ≤ 62) (hn : l.length = n) (hb : n ≤ 4096) (hl : ∀ p ∈ l, wN p ≤ w) :
 ∀ (k i : Nat) (cur : List Nat), n - i ≤ k → i ≤ n → cur.length = n → (∀ j, j < i → cur[j]? = l[j]?) →
  ∃ y ex, C X (.loop nZ) [(0, L), (2, .int .i64 w), (8, .row H.length 0 0 n false), (55, .int .i64 n), (56, .int .i64 i)] (rh H cur) = some (.exit 1, (0, L) :: (2, .int .i64 w) :: (8, .row H.length 0 0 n false) :: (55, .int .i64 n) :: (56, y) :: ex, rh H l) := by
 intro k
 induction k with
 | zero =>
  intro i cur hk hi hc h1
  obtain rfl : i = n := by omega
  have hcl : cur = l := by
   apply List.ext_getElem?
   intro j
   by_cases c : j < i
   ·exact h1 j c
   ·rw [List.getElem?_eq_none (by omega), List.getElem?_eq_none (by omega)]
  rw [hcl]
  refine ⟨.int .i64 i, [(57, .bool false)], ?_⟩
  generalize rh H l = P
  rw [Zx]
  unfold nZ
  (repeat (first | rw [ZL] | rw [Zs (by simp [ZF, Zy, ZA, ZB, Zp, Zf, Zm, Zi, Zk, Zc, Zd, Zj, Zq, Zr, ZC, ↓Zh, Zo, Zg, Zz, Zu, Zt, ZR, Zv, Yj, put, lk, Od.v, Za, Ze, Zl, Yv, Yb, Ya, Yd, ai, Yt, DV.isU, DV.cells, ae, ZJ, ZX, ZK, Zn, splice, DV.one, ZM, af, ZT, Ys]; exact ⟨rfl, rfl⟩)] | rw [Yi (by simp [lk, Za, Od.v]; exact rfl)] | rw [Zu] | rw [Zt] | rw [ZY] | rw [Yo] | rw [Ye] | rw [Yl] | rw [Yg] | rw [Yf] | rw [ZU] | rw [ZP] | rw [ZQ] | rw [ZI (by decide)] | rw [ZN] | rw [ZG] | rw [ZH] | rw [ZE (by decide)] | rw [Yq] | rw [Ym (by simp [ZF, Zy, ZA, ZB, Zp, Zf, Zm, Zi, Zk, Zc, Zd, Zj, Zq, Zr, ZC, ↓Zh, Zo, Zg, Zz, Zu, Zt, ZR, Zv, Yj, put, lk, Od.v, Za, Ze, Zl, Yv, Yb, Ya, Yd, ai, Yt, DV.isU, DV.cells, ae, ZJ, ZX, ZK, Zn, splice, DV.one, ZM, af, ZT, Ys]; exact ⟨rfl, rfl⟩)] | rw [Yp (by simp [lk, Za, Od.v]; exact rfl)] | rw [Yk]))
  rw [ZS]
  simp [Za, lk]
 | succ k ih =>
  intro i cur hk hi hc h1
  by_cases c : i < n
  ·obtain ⟨I, hI⟩ : ∃ I, I = i + 1 := ⟨_, rfl⟩
   have z1 : IntKind.i64.wrap ((i : Int) + 1) = (I : Int) := wr
   have hil : i < l.length := by omega
   have hpl : i * w + w ≤ l.length * w := by rw [← Nat.succ_mul]; exact Nat.mul_le_mul_right w hil
   have oO := Eh (H := rh H cur) hB (po l w) hw (i := i) (by omega) (by rw [iZ]; omega)
   rw [tr l w i hil (hl _ (List.getElem_mem hil))] at oO
   have hrow : (rh H cur)[H.length]? = some (.row 3 1 0 (cur.map iD)) := by simp [rh]
   have r1 := lB hrow hc
   have r2 := uL hrow hc c l[i]
   have ZX : (rh H cur).set H.length (.row 3 1 0 ((cur.set i l[i]).map iD)) = rh H (cur.set i l[i]) := by simp [rh, ZK]
   rw [ZX] at r2
   obtain ⟨y, ex, hc2⟩ := ih I (cur.set i l[i]) (by omega) (by omega) (by simpa using hc) (fun j hj => by
    by_cases hji : j = i
    ·subst hji
     rw [List.getElem?_set_self (by omega), List.getElem?_eq_getElem hil]
    ·rw [List.getElem?_set_ne (Ne.symm hji)]; exact h1 j (by omega))
   refine ⟨y, ex, ?_⟩
   have hs : C X nZ [(0, L), (2, .int .i64 w), (8, .row H.length 0 0 n false), (55, .int .i64 n), (56, .int .i64 i)] (rh H cur) = some (.norm, [(0, L), (2, .int .i64 w), (8, .row H.length 0 0 n false), (55, .int .i64 n), (56, .int .i64 I)], rh H (cur.set i l[i])) := by
    clear ih hc2 hB hl h1 ZX hrow
    generalize rh H (cur.set i l[i]) = P2 at *
    generalize rh H cur = P1 at *
    generalize l[i] = x at *
    unfold nZ
    (repeat (first | rw [ZL] | rw [Zs (by simp [ZF, Zy, ZA, ZB, Zp, Zf, Zm, Zi, Zk, Zc, Zd, Zj, Zq, Zr, ZC, ↓Zh, Zo, Zg, Zz, Zu, Zt, ZR, Zv, Yj, put, lk, Od.v, Za, Ze, Zl, Yv, Yb, Ya, Yd, ai, Yt, DV.isU, DV.cells, ae, ZJ, ZX, ZK, Zn, splice, DV.one, ZM, af, ZT, Ys, c, z1, oO, r1, r2, hc]; exact ⟨rfl, rfl⟩)] | rw [Yi (by simp [lk, Za, Od.v, c, z1, oO, r1, r2, hc]; exact rfl)] | rw [Zu] | rw [Zt] | rw [ZY] | rw [Yo] | rw [Ye] | rw [Yl] | rw [Yg] | rw [Yf] | rw [ZU] | rw [ZP] | rw [ZQ] | rw [ZI (by decide)] | rw [ZN] | rw [ZG] | rw [ZH] | rw [ZE (by decide)] | rw [Yq] | rw [Ym (by simp [ZF, Zy, ZA, ZB, Zp, Zf, Zm, Zi, Zk, Zc, Zd, Zj, Zq, Zr, ZC, ↓Zh, Zo, Zg, Zz, Zu, Zt, ZR, Zv, Yj, put, lk, Od.v, Za, Ze, Zl, Yv, Yb, Ya, Yd, ai, Yt, DV.isU, DV.cells, ae, ZJ, ZX, ZK, Zn, splice, DV.one, ZM, af, ZT, Ys, c, z1, oO, r1, r2, hc]; exact ⟨rfl, rfl⟩)] | rw [Yp (by simp [lk, Za, Od.v, c, z1, oO, r1, r2, hc]; exact rfl)] | rw [Yk]))
    simp [Za, lk]
   rw [Zx, hs, ZZ]
   exact hc2
  ·exact ih i cur (by omega) hi hc h1
theorem Ei {H : Zb} {L : DV} {l : List Nat} {w n : Nat} (hB : aC L (pack l w)) (hw : w ≤ 62) (hn : l.length = n) (hb : n ≤ 4096) (hl : ∀ p ∈ l, wN p ≤ w) :
 ∃ R, E X 52 [L, .int .i64 n, .int .i64 w] H = some (.tup [R, .int .i64 0], H) ∧ ((R = .nils ∧ l = []) ∨ R = .list 1 (l.map iD) false) := by
 have gG := ud w hw H
 have fA := yh n w (by omega) hw H
 have hv := hB.vw H
 have hpl := iZ l w
 have hla := Aa l w
 rw [hn] at hpl hla
 obtain ⟨y, ex, hc⟩ := Hj (H := H) hB hw hn hb hl n 0 (List.replicate n 0) (by omega) (by omega) (by simp) (fun j hj => by omega)
 have hr0 : rh H (List.replicate n 0) = H ++ [.row 3 1 0 (List.replicate n (.int .i64 0))] := by simp [rh]
 rw [hr0, show ((0 : Nat) : Int) = 0 from rfl] at hc
 have gF : Grow 3 iD H (rh H l) (.row H.length 0 0 n false) l := ⟨by simp [rh], .inr ⟨0, H.length, by rw [hn], Nat.le_refl _, by simp [rh]⟩⟩
 obtain ⟨R, hf, hR⟩ := xG gF (fun x => .int _ _) 0
 refine ⟨R, ?_, hR⟩
 have hmul : n * w ≤ 4096 * 62 := Nat.mul_le_mul hb hw
 have hr3 : vw (H ++ [HO.row 3 1 0 (List.replicate n (.int .i64 0))]) 1 (.row H.length 0 0 n false) = some (List.replicate n (.int .i64 0)) := by simp [vw, List.take_of_length_le]
 obtain ⟨P, hP⟩ : ∃ P, P = n * w := ⟨_, rfl⟩
 rw [← hP] at hpl hla fA
 have z1 : IntKind.i64.wrap ((n : Int) * (w : Int)) = (P : Int) := by
  rw [← Int.natCast_mul, ← hP, wrap64 _ (by omega) (by omega)]
 obtain ⟨r, hr⟩ : ∃ r, r = P % 8 := ⟨_, rfl⟩
 have z2 : ((P : Int)).tmod 8 = (r : Int) := by rw [Int.tmod_eq_emod_of_nonneg (by omega)]; omega
 obtain ⟨m, hm⟩ : ∃ m, m = (P + 7) / 8 := ⟨_, rfl⟩
 rw [← hm] at hpl hla fA
 rw [← hr] at hla
 have d1 : ¬ (4096 : Int) < (n : Int) := by omega
 have d2 : ¬ 4096 < n := by omega
 have d3 : ¬ (n : Int) < 0 := by omega
 have m0 : (0 : Int) ≤ (n : Int) := by omega
 have m1 : (n : Int) * 8 ≤ 140737488355328 := by omega
 have hW : Wc 1 (.int .i64 0) := by simp [Wc, DV.cells, DV.one]
 generalize pack l w = pk at *
 clear hl hB gF hR hr0
 by_cases h0 : r = 0
 ·have d4 : ¬ (0 : Int) < (r : Int) := by omega
  have d5 : ¬ 0 < r := by omega
  rw [ZO (X := X) _ oW _ rfl rfl]; unfold oW
  (repeat (first | rw [ZL] | rw [Zs (by simp [ZF, Zy, ZA, ZB, Zp, Zf, Zm, Zi, Zk, Zc, Zd, Zj, Zq, Zr, ZC, ↓Zh, Zo, Zg, Zz, Zu, Zt, ZR, Zv, Yj, put, lk, Od.v, Za, Ze, Zl, Yv, Yb, Ya, Yd, ai, Yt, DV.isU, DV.cells, ae, ZJ, ZX, ZK, Zn, splice, DV.one, ZM, af, ZT, Ys, gG, fA, hv, hpl, z1, z2, d1, d2, d3, d4, d5, m0, m1, hW, hr3]; exact ⟨rfl, rfl⟩)] | rw [Yi (by simp [lk, Za, Od.v, gG, fA, hv, hpl, z1, z2, d1, d2, d3, d4, d5, m0, m1, hW, hr3]; exact rfl)] | rw [Zu] | rw [Zt] | rw [ZY] | rw [Yo] | rw [Ye] | rw [Yl] | rw [Yg] | rw [Yf] | rw [ZU] | rw [ZP] | rw [ZQ] | rw [ZI (by decide)] | rw [ZN] | rw [ZG] | rw [ZH] | rw [ZE (by decide)] | rw [Yq] | rw [Ym (by simp [ZF, Zy, ZA, ZB, Zp, Zf, Zm, Zi, Zk, Zc, Zd, Zj, Zq, Zr, ZC, ↓Zh, Zo, Zg, Zz, Zu, Zt, ZR, Zv, Yj, put, lk, Od.v, Za, Ze, Zl, Yv, Yb, Ya, Yd, ai, Yt, DV.isU, DV.cells, ae, ZJ, ZX, ZK, Zn, splice, DV.one, ZM, af, ZT, Ys, gG, fA, hv, hpl, z1, z2, d1, d2, d3, d4, d5, m0, m1, hW, hr3]; exact ⟨rfl, rfl⟩)] | rw [Yp (by simp [lk, Za, Od.v, gG, fA, hv, hpl, z1, z2, d1, d2, d3, d4, d5, m0, m1, hW, hr3]; exact rfl)] | rw [Yk]))
  (try simp only [Za, List.map_cons, List.map_nil, lk, reduceIte, Nat.reduceEqDiff, Nat.zero_ne_one, Nat.one_ne_zero])
  rw [hc]
  (repeat (first | rw [ZL] | rw [Zs (by simp [ZF, Zy, ZA, ZB, Zp, Zf, Zm, Zi, Zk, Zc, Zd, Zj, Zq, Zr, ZC, ↓Zh, Zo, Zg, Zz, Zu, Zt, ZR, Zv, Yj, put, lk, Od.v, Za, Ze, Zl, Yv, Yb, Ya, Yd, ai, Yt, DV.isU, DV.cells, ae, ZJ, ZX, ZK, Zn, splice, DV.one, ZM, af, ZT, Ys]; exact ⟨rfl, rfl⟩)] | rw [Yi (by simp [lk, Za, Od.v]; exact rfl)] | rw [Zu] | rw [Zt] | rw [ZY] | rw [Yo] | rw [Ye] | rw [Yl] | rw [Yg] | rw [Yf] | rw [ZU] | rw [ZP] | rw [ZQ] | rw [ZI (by decide)] | rw [ZN] | rw [ZG] | rw [ZH] | rw [ZE (by decide)] | rw [Yq] | rw [Ym (by simp [ZF, Zy, ZA, ZB, Zp, Zf, Zm, Zi, Zk, Zc, Zd, Zj, Zq, Zr, ZC, ↓Zh, Zo, Zg, Zz, Zu, Zt, ZR, Zv, Yj, put, lk, Od.v, Za, Ze, Zl, Yv, Yb, Ya, Yd, ai, Yt, DV.isU, DV.cells, ae, ZJ, ZX, ZK, Zn, splice, DV.one, ZM, af, ZT, Ys]; exact ⟨rfl, rfl⟩)] | rw [Yp (by simp [lk, Za, Od.v]; exact rfl)] | rw [Yk]))
  simp only [Zw, Yc, lk, Za, List.map_cons, List.map_nil, reduceIte, Option.map_some, Nat.reduceEqDiff, hf]
 ·have d4 : (0 : Int) < (r : Int) := by omega
  have d5 : 0 < r := by omega
  have hlt := hla d5
  obtain ⟨q, hq⟩ : ∃ q, q = m - 1 := ⟨_, rfl⟩
  have jN : q < pk.length := by omega
  have sA : q < m := by omega
  have xn : (pk.map bD)[q]? = some (bD pk[q]) := by simp [jN]
  rw [← hq, List.getD_eq_getElem?_getD, List.getElem?_eq_getElem jN] at hlt
  have hlt : pk[q] < 2 ^ r := hlt
  obtain ⟨x, hx⟩ : ∃ x, x = pk[q] := ⟨_, rfl⟩
  have hx' := hx.symm
  rw [← hx] at hlt
  have z3 : IntKind.i64.wrap ((m : Int) - 1) = (q : Int) := wr
  have z4 : ((x : Int)).fdiv (2 ^ min r IntKind.u8.bits) = 0 := by
   rw [show min r IntKind.u8.bits = r from Nat.min_eq_left (by simp [IntKind.bits]; omega), show (2 : Int) ^ r = ((2 ^ r : Nat) : Int) by simp, Int.fdiv_eq_ediv_of_nonneg _ (Int.natCast_nonneg _), ← Int.natCast_ediv, Nat.div_eq_of_lt hlt]
   rfl
  have d6 : ¬ (r : Int) < 0 := by omega
  rw [ZO (X := X) _ oW _ rfl rfl]; unfold oW
  (repeat (first | rw [ZL] | rw [Zs (by simp [ZF, Zy, ZA, ZB, Zp, Zf, Zm, Zi, Zk, Zc, Zd, Zj, Zq, Zr, ZC, ↓Zh, Zo, Zg, Zz, Zu, Zt, ZR, Zv, Yj, put, lk, Od.v, Za, Ze, Zl, Yv, Yb, Ya, Yd, ai, Yt, DV.isU, DV.cells, ae, ZJ, ZX, ZK, Zn, splice, DV.one, ZM, af, ZT, Ys, gG, fA, hv, hpl, z1, z2, z3, z4, d1, d2, d3, d4, d5, d6, m0, m1, hW, hr3, jN, sA, hx', xn, ay]; exact ⟨rfl, rfl⟩)] | rw [Yi (by simp [lk, Za, Od.v, gG, fA, hv, hpl, z1, z2, z3, z4, d1, d2, d3, d4, d5, d6, m0, m1, hW, hr3, jN, sA, hx', xn, ay]; exact rfl)] | rw [Zu] | rw [Zt] | rw [ZY] | rw [Yo] | rw [Ye] | rw [Yl] | rw [Yg] | rw [Yf] | rw [ZU] | rw [ZP] | rw [ZQ] | rw [ZI (by decide)] | rw [ZN] | rw [ZG] | rw [ZH] | rw [ZE (by decide)] | rw [Yq] | rw [Ym (by simp [ZF, Zy, ZA, ZB, Zp, Zf, Zm, Zi, Zk, Zc, Zd, Zj, Zq, Zr, ZC, ↓Zh, Zo, Zg, Zz, Zu, Zt, ZR, Zv, Yj, put, lk, Od.v, Za, Ze, Zl, Yv, Yb, Ya, Yd, ai, Yt, DV.isU, DV.cells, ae, ZJ, ZX, ZK, Zn, splice, DV.one, ZM, af, ZT, Ys, gG, fA, hv, hpl, z1, z2, z3, z4, d1, d2, d3, d4, d5, d6, m0, m1, hW, hr3, jN, sA, hx', xn, ay]; exact ⟨rfl, rfl⟩)] | rw [Yp (by simp [lk, Za, Od.v, gG, fA, hv, hpl, z1, z2, z3, z4, d1, d2, d3, d4, d5, d6, m0, m1, hW, hr3, jN, sA, hx', xn, ay]; exact rfl)] | rw [Yk]))
  (try simp only [Za, List.map_cons, List.map_nil, lk, reduceIte, Nat.reduceEqDiff, Nat.zero_ne_one, Nat.one_ne_zero])
  rw [hc]
  (repeat (first | rw [ZL] | rw [Zs (by simp [ZF, Zy, ZA, ZB, Zp, Zf, Zm, Zi, Zk, Zc, Zd, Zj, Zq, Zr, ZC, ↓Zh, Zo, Zg, Zz, Zu, Zt, ZR, Zv, Yj, put, lk, Od.v, Za, Ze, Zl, Yv, Yb, Ya, Yd, ai, Yt, DV.isU, DV.cells, ae, ZJ, ZX, ZK, Zn, splice, DV.one, ZM, af, ZT, Ys]; exact ⟨rfl, rfl⟩)] | rw [Yi (by simp [lk, Za, Od.v]; exact rfl)] | rw [Zu] | rw [Zt] | rw [ZY] | rw [Yo] | rw [Ye] | rw [Yl] | rw [Yg] | rw [Yf] | rw [ZU] | rw [ZP] | rw [ZQ] | rw [ZI (by decide)] | rw [ZN] | rw [ZG] | rw [ZH] | rw [ZE (by decide)] | rw [Yq] | rw [Ym (by simp [ZF, Zy, ZA, ZB, Zp, Zf, Zm, Zi, Zk, Zc, Zd, Zj, Zq, Zr, ZC, ↓Zh, Zo, Zg, Zz, Zu, Zt, ZR, Zv, Yj, put, lk, Od.v, Za, Ze, Zl, Yv, Yb, Ya, Yd, ai, Yt, DV.isU, DV.cells, ae, ZJ, ZX, ZK, Zn, splice, DV.one, ZM, af, ZT, Ys]; exact ⟨rfl, rfl⟩)] | rw [Yp (by simp [lk, Za, Od.v]; exact rfl)] | rw [Yk]))
  simp only [Zw, Yc, lk, Za, List.map_cons, List.map_nil, reduceIte, Option.map_some, Nat.reduceEqDiff, hf]
end Go.Proofs.YteekbciaggmfgaaDoor
namespace Go.Proofs.YteekbciaggmfgaaDoor
attribute [local go_sem] ZF Zy ZA ZB Zp Zf Zm Zi Zk Zc Zd Zj Zq Zr ZC Zo Zg Zz Zu Zt ZR Zv Yj put lk Od.v Za Ze Zl Yv Yb Ya Yd ai Yt DV.isU DV.cells ae ZJ ZX ZK Zn splice ZM af ZT Ys bz bR bL bf bP bu aZ bn bN bg bQ bj bq bh bU bV bK aQ aR
attribute [local go_sem ↓] Zh
set_option linter.unusedVariables false
set_option linter.unusedSimpArgs false
set_option maxRecDepth 10000
def addN (sn : List Nat) (p : Nat) : List Nat := if p ∈ sn then sn else sn ++ [p]
def fV (sn : List Nat) : List (DV × DV) := sn.map fun p => (iD p, DV.bool true)
theorem C3 (p q : Nat) : eP false [1] (iD p) (iD q) = some (decide (p = q)) := by
 simp [eP, Ys]
 by_cases h : p = q
 ·subst h; simp
 ·have : ¬ (p : Int) = (q : Int) := by omega
  simp [h, this]
theorem yC (p : Nat) : ∀ sn : List Nat, fw false [1] (iD p) (.bool true) (fV sn) = some (fV (addN sn p))
 | [] => rfl
 | q :: sn => by
  have ih := yC p sn
  unfold fV at ih ⊢
  simp only [List.map_cons, fw, C3]
  by_cases h : p = q
  ·subst h
   simp [addN]
  ·simp only [h, decide_false]
   rw [ih]
   unfold addN
   by_cases h2 : p ∈ sn
   ·simp [h, h2]
   ·simp [h, h2]
def Yn (il : List Nat) : List Nat := il.foldl addN []
theorem qB (il : List Nat) (p : Nat) : Yn (il ++ [p]) = addN (Yn il) p := by simp [Yn, List.foldl_append]
theorem DW (sn : List Nat) (p x : Nat) : x ∈ addN sn p ↔ x ∈ sn ∨ x = p := by
 unfold addN
 split
 ·rename_i h
  constructor
  ·exact .inl
  ·rintro (h1 | rfl)
   ·exact h1
   ·exact h
 ·simp
theorem EP (il : List Nat) : ∀ sn : List Nat, sn.Nodup → (il.foldl addN sn).Nodup ∧ ∀ x, x ∈ il.foldl addN sn ↔ x ∈ sn ∨ x ∈ il := by
 induction il with
 | nil => intro sn h; exact ⟨h, fun x => by simp⟩
 | cons p il ih =>
  intro sn h
  have h2 : (addN sn p).Nodup := by
   unfold addN
   split
   ·exact h
   ·rename_i hp
    rw [List.nodup_append]
    refine ⟨h, by simp, fun a ha b hb => ?_⟩
    simp at hb; subst hb
    rintro rfl
    exact hp ha
  obtain ⟨q1, q2⟩ := ih (addN sn p) h2
  refine ⟨q1, fun x => ?_⟩
  rw [List.foldl_cons, q2, DW, List.mem_cons, or_assoc]
theorem zN {il : List Nat} {m : Nat} (h : ∀ p, p ∈ il ↔ p < m) : (Yn il).length = m := by
 obtain ⟨h1, h2⟩ := EP il [] List.nodup_nil
 have hp : (Yn il).Perm (List.range m) := (List.perm_ext_iff_of_nodup h1 List.nodup_range).2 (fun a => by
  rw [h2, List.mem_range, ← h]; simp)
 have := hp.length_eq
 simpa using this
def bG (H : Zb) (n : Int) (D B : DV) (sn : List Nat) : Zb := H ++ [.box 25 [.int .i64 n, D, B], .map 0 0 (fV sn)]
theorem Ak {H : Zb} {n : Nat} {D B R : DV} {ys : List V} {il : List Nat} (hD : ∀ g, vw g 4 D = some (ys.map V.d)) (hR : ∀ g, vw g 1 R = some (il.map iD)) (hn : il.length = n) (hb : n ≤ 4096) (hl : ∀ p ∈ il, p < ys.length) (cH : ys.length ≤ 1000) :
 ∀ (k i : Nat), n - i ≤ k → i ≤ n → ∃ y ex, C X (.loop ff) [(1, .ref H.length 0), (4, R), (5, .int .i64 0), (6, .map (H.length + 1)), (36, R), (37, .int .i64 n), (38, .int .i64 i)] (bG H n D B (Yn (il.take i))) = some (.exit 0, (1, .ref H.length 0) :: (4, R) :: (5, .int .i64 0) :: (6, .map (H.length + 1)) :: (36, R) :: (37, .int .i64 n) :: (38, y) :: ex, bG H n D B (Yn il)) := by
 intro k
 induction k with
 | zero =>
  intro i hk hi
  obtain rfl : i = n := by omega
  rw [← hn, List.take_length, hn]
  refine ⟨.int .i64 i, [(39, .bool false)], ?_⟩
  generalize bG H i D B (Yn il) = P
  rw [Zx]
  unfold ff
  refine rn trivial ?_
  rw [ZS]
  simp [Za, lk]
 | succ k ih =>
  intro i hk hi
  by_cases c : i < n
  ·obtain ⟨I, hI⟩ : ∃ I, I = i + 1 := ⟨_, rfl⟩
   have z1 : IntKind.i64.wrap ((i : Int) + 1) = (I : Int) := wr
   have c' : i < il.length := by omega
   have hp := hl _ (List.getElem_mem c')
   have AB : Yn (il.take I) = addN (Yn (il.take i)) il[i] := by rw [hI, ← List.take_append_getElem c', qB]
   have hm := yC il[i] (Yn (il.take i))
   rw [← AB] at hm
   obtain ⟨p, dF⟩ : ∃ p, p = il[i] := ⟨_, rfl⟩
   rw [← dF] at hp hm
   have eG := dF.symm
   obtain ⟨y, ex, hc⟩ := ih I (by omega) (by omega)
   refine ⟨y, ex, ?_⟩
   have f1 : (bG H n D B (Yn (il.take i)))[H.length]? = some (.box 25 [.int .i64 n, D, B]) := by simp [bG]
   have f2 : (bG H n D B (Yn (il.take i)))[H.length + 1]? = some (.map 0 0 (fV (Yn (il.take i)))) := by simp [bG, ae]
   have f3 : (bG H n D B (Yn (il.take i))).set (H.length + 1) (.map 0 0 (fV (Yn (il.take I)))) = bG H n D B (Yn (il.take I)) := by simp [bG, ZX]
   have d1 : ¬ (ys.length : Int) ≤ (p : Int) := by omega
   have d2 : ¬ ys.length ≤ p := by omega
   have kY : eP false [1] (.int .i64 (p : Int)) (.int .i64 (p : Int)) = some true := by have := C3 p p; simpa using this
   have hm : fw false [1] (.int .i64 (p : Int)) (.bool true) (fV (Yn (il.take i))) = some (fV (Yn (il.take I))) := hm
   have hs : C X ff [(1, .ref H.length 0), (4, R), (5, .int .i64 0), (6, .map (H.length + 1)), (36, R), (37, .int .i64 n), (38, .int .i64 i)] (bG H n D B (Yn (il.take i))) = some (.norm, [(1, .ref H.length 0), (4, R), (5, .int .i64 0), (6, .map (H.length + 1)), (36, R), (37, .int .i64 n), (38, .int .i64 I)], bG H n D B (Yn (il.take I))) := by
    clear ih hc hl AB
    generalize bG H n D B (Yn (il.take I)) = P2 at *
    generalize bG H n D B (Yn (il.take i)) = P1 at *
    unfold ff
    refine aT (mU @c @c' @z1 @hR @hD @eG @f1 @f2 @f3 @d1 @d2 @kY @hm) ?_
    simp [Za, lk]
   rw [Zx, hs, ZZ]
   exact hc
  ·exact ih i (by omega) hi
set_option maxHeartbeats 1000000 in
theorem KD {H : Zb} {n : Nat} {D B : DV} {ys : List V} {il : List Nat} (hD : df D ys) (hU : Up ys) (hmay : ∀ x ∈ ys, aG x = true) (cH : ys.length ≤ 256) (hB : aC B (pack il (wC ys.length))) (hn : il.length = n) (hb : n ≤ 4096) (hl : ∀ p, p ∈ il ↔ p < ys.length) :
 ∃ R, E X 29 [aI n D B] H = some (.tup [R, .bool true], H) ∧ ((R = .nils ∧ il = []) ∨ R = .list 1 (il.map iD) false) := by
 have pJ : wC ys.length ≤ 62 := by
  have h1 := ij (ys.length - 1) 255 (by omega)
  have h2 : wN 255 = 8 := by decide
  unfold wC; omega
 have mX := fun g => Ej (h := g) (A := D) (fun l => hD.vw _) (by omega)
 rw [uu ys none hU hmay] at mX
 have k9 := fun g => uf ys.length cH g
 obtain ⟨R, sM, hR⟩ := Ei (H := H ++ [.box 25 [.int .i64 n, D, B]]) hB pJ hn hb (fun p hp => ij _ _ (by have := (hl p).1 hp; omega))
 have jw : ∀ g, vw g 1 R = some (il.map iD) := fun g => by rcases hR with ⟨rfl, rfl⟩ | rfl <;> rfl
 refine ⟨R, ?_, hR⟩
 obtain ⟨y, ex, hc⟩ := Ak (H := H) (n := n) (D := D) (B := B) (R := R) hD.vw jw hn hb (fun p hp => (hl p).1 hp) (by omega) n 0 (by omega) (by omega)
 have hi0 : bG H n D B (Yn (il.take 0)) = H ++ [.box 25 [.int .i64 n, D, B], .map 0 0 []] := rfl
 rw [hi0, show ((0 : Nat) : Int) = 0 from rfl] at hc
 have f1 : (bG H n D B (Yn il))[H.length]? = some (.box 25 [.int .i64 n, D, B]) := by simp [bG]
 have f2 : (bG H n D B (Yn il))[H.length + 1]? = some (.map 0 0 (fV (Yn il))) := by simp [bG, ae]
 have f3 : (fV (Yn il)).length = ys.length := by rw [fV, List.length_map, zN hl]
 have f4 : (bG H n D B (Yn il)).take H.length = H := by simp [bG]
 have aU := hD.vw
 have d1 : ¬ (4096 : Int) < (n : Int) := by omega
 have d2 : ¬ 4096 < n := by omega
 have d3 : ¬ (n : Int) < 0 := by omega
 have aB : fin H (bG H n D B (Yn il)) [R, .bool true] = (.tup [R, .bool true], H) := by
  simp only [fin]
  rw [if_pos f4]
  rcases hR with ⟨rfl, _⟩ | rfl <;> rfl
 generalize bG H n D B (Yn il) = P at *
 generalize fV (Yn il) = es at *
 generalize wC ys.length = w at *
 rw [ZO (X := X) _ kJ _ rfl rfl]; unfold kJ
 refine Ep (jC @mX @aU @k9 @sM @d1 @d2 @d3 @jw @hn) ?_
 refine aD ?_
 rw [hc]
 refine rn (d8 @f1 @f2 @f3 @aU) ?_
 simp only [Zw, Yc, lk, Za, List.map_cons, List.map_nil, reduceIte, Option.map_some, Nat.reduceEqDiff, aB]
structure ColOk (n : Nat) (D B : DV) (ys : List V) (il : List Nat) : Prop where
 dict : df D ys
 up : Up ys
 may : ∀ x ∈ ys, aG x = true
 yb : ys.length ≤ 256
 bytes : aC B (pack il (wC ys.length))
 len : il.length = n
 nb : n ≤ 4096
 mem : ∀ p, p ∈ il ↔ p < ys.length
theorem uF {n : Nat} {D B : DV} {ys : List V} {il : List Nat} (hC : ColOk n D B ys il) (H : Zb) : ∃ R, E X 29 [aI n D B] H = some (.tup [R, .bool true], H) ∧ ∀ g, vw g 1 R = some (il.map iD) := by
 obtain ⟨R, h1, h2⟩ := KD (H := H) hC.dict hC.up hC.may hC.yb hC.bytes hC.len hC.nb hC.mem
 exact ⟨R, h1, fun g => by rcases h2 with ⟨rfl, rfl⟩ | rfl <;> rfl⟩
theorem pn {n : Nat} {D B : DV} {ys : List V} {il : List Nat} (hC : ColOk n D B ys il) (H : Zb) : E X 19 [aI n D B] H = some (.bool true, H) := by
 obtain ⟨R, vQ, _⟩ := uF hC (H ++ [.box 25 [.int .i64 n, D, B]])
 rw [ZO (X := X) _ Cb _ rfl rfl]; unfold Cb; exact rg @vQ
def bE (hold : Nat → Bool) (il : List Nat) (i : Nat) : List Nat := (List.range i).filter fun j => hold (il.getD j 0)
theorem qI (hold : Nat → Bool) (il : List Nat) (i : Nat) (h : i < il.length) : bE hold il (i + 1) = if hold il[i] = true then bE hold il i ++ [i] else bE hold il i := by
 have e : il.getD i 0 = il[i] := by rw [List.getD_eq_getElem?_getD, List.getElem?_eq_getElem h]; rfl
 rw [bE, List.range_succ, List.filter_append, List.filter_cons, e]
 split <;> simp [bE]
theorem kP (hold : Nat → Bool) (il : List Nat) (i : Nat) : (bE hold il i).length ≤ i := by
 have := List.length_filter_le (fun j => hold (il.getD j 0)) (List.range i)
 simpa [bE] using this
theorem Hu {H Hs : Zb} {R T : DV} {il : List Nat} {n f : Nat} {cap : List DV} {hold : Nat → Bool} (hR : ∀ g, vw g 1 R = some (il.map iD)) (hn : il.length = n) (hb : n ≤ 4096) (hF : ∀ G p, E X f (.int .i64 (p : Nat) :: cap) (H ++ G) = some (.bool (hold p), H ++ G)) (jO : Hs.take H.length = H) :
 ∀ (k i : Nat) (o : DV) (h : Zb), n - i ≤ k → i ≤ n → Grow 3 iD Hs h o (bE hold il i) → ∃ y ex o' h', C X (.loop fK) [(1, .func f [] cap), (4, T), (6, .bool true), (7, o), (15, R), (16, .int .i64 n), (17, .int .i64 i)] h = some (.exit 0, (1, .func f [] cap) :: (4, T) :: (6, .bool true) :: (7, o') :: (15, R) :: (16, .int .i64 n) :: (17, y) :: ex, h') ∧ Grow 3 iD Hs h' o' (bE hold il n) := by
 intro k
 induction k with
 | zero =>
  intro i o h hk hi hG
  obtain rfl : i = n := by omega
  refine ⟨.int .i64 i, [(18, .bool false)], o, h, ?_, hG⟩
  rw [Zx]
  unfold fK
  refine rn trivial ?_
  rw [ZS]
  simp [Za, lk]
 | succ k ih =>
  intro i o h hk hi hG
  by_cases c : i < n
  ·obtain ⟨I, hI⟩ : ∃ I, I = i + 1 := ⟨_, rfl⟩
   have z1 : IntKind.i64.wrap ((i : Int) + 1) = (I : Int) := wr
   have c' : i < il.length := by omega
   have hrs := qI hold il i c'
   rw [← hI] at hrs
   obtain ⟨p, dF⟩ : ∃ p, p = il[i] := ⟨_, rfl⟩
   have eG := dF.symm
   rw [← dF] at hrs
   have hpre : h.take H.length = H := by
    have t1 := fo jO
    have : h.take H.length = (h.take Hs.length).take H.length := by rw [List.take_take, Nat.min_eq_left t1]
    rw [this, hG.1, jO]
   have e := hF (h.drop H.length) p
   have hsp : H ++ h.drop H.length = h := by
    have := List.take_append_drop H.length h
    rw [hpre] at this; exact this
   rw [hsp] at e
   have pK := hG.vw0
   cases hh : hold p
   ·rw [hh] at hrs e
    have ry : Grow 3 iD Hs h o (bE hold il I) := by rw [hrs]; exact hG
    have hs : C X fK [(1, .func f [] cap), (4, T), (6, .bool true), (7, o), (15, R), (16, .int .i64 n), (17, .int .i64 i)] h = some (.norm, [(1, .func f [] cap), (4, T), (6, .bool true), (7, o), (15, R), (16, .int .i64 n), (17, .int .i64 I)], h) := by
     clear ih hG ry hrs hF
     unfold fK
     refine aT (jP @c @c' @z1 @hR @eG @e) ?_
     simp [Za, lk]
    rw [Zx, hs, ZZ]
    exact ih I o h (by omega) (by omega) ry
   ·rw [hh] at hrs e
    have lX := kP hold il i
    obtain ⟨o2, h2, ha, l8⟩ := hG.app 8 [i] (by simp; omega)
    have ry : Grow 3 iD Hs h2 o2 (bE hold il I) := by rw [hrs]; exact l8
    have hs : C X fK [(1, .func f [] cap), (4, T), (6, .bool true), (7, o), (15, R), (16, .int .i64 n), (17, .int .i64 i)] h = some (.norm, [(1, .func f [] cap), (4, T), (6, .bool true), (7, o2), (15, R), (16, .int .i64 n), (17, .int .i64 I)], h2) := by
     have y1 : ∀ (a : Int) h, cM [.int .i64 a] h = some ([.int .i64 a], h) := fun _ _ => rfl
     have y2 : ∀ a, Wc 1 (.int .i64 a) := fun a => by simp [Wc, DV.cells, DV.one]
     have y3 : ∀ a, Nr (.int .i64 a) := fun a => .int _ _
     have y4 : ∀ (a : Int) h, aJ h 1 (.list 1 [.int .i64 a] true) = some [.int .i64 a] := fun _ _ => rfl
     generalize bE hold il i = cur at *
     have ha : aX h 3 1 8 o (cur.map iD) [.int .i64 i] = some (o2, h2) := ha
     clear ih hG ry l8 hrs hF
     unfold fK
     refine aT (lm @c @c' @z1 @hR @eG @e @pK @ha @y1 @y2 @y3 @y4) ?_
     simp [Za, lk]
    rw [Zx, hs, ZZ]
    exact ih I o2 h2 (by omega) (by omega) ry
  ·exact ih i o h (by omega) hi hG
theorem KB {H : Zb} {n f : Nat} {D B : DV} {ys : List V} {il : List Nat} {cap : List DV} {hold : Nat → Bool} (hC : ColOk n D B ys il) (hF : ∀ G p, E X f (.int .i64 (p : Nat) :: cap) (H ++ G) = some (.bool (hold p), H ++ G)) :
 ∃ W, E X 33 [aI n D B, .func f [] cap] H = some (.agg [W], H) ∧ WL W (jk (bE hold il n)) := by
 obtain ⟨Hs, jO⟩ : ∃ Hs, Hs = H ++ [HO.box 25 [.int .i64 n, D, B], .box 41 [.nils]] := ⟨_, rfl⟩
 obtain ⟨R, vQ, hR⟩ := uF hC Hs
 obtain ⟨y, ex, o, h2, hc, hG⟩ := Hu (Hs := Hs) (T := .ref (H.length + 1) 0) hR hC.len hC.nb hF (by rw [jO]; simp) n 0 .nils Hs (by omega) (by omega) Grow.zero
 rw [show ((0 : Nat) : Int) = 0 from rfl] at hc
 have hnb := hC.nb
 have lX := kP hold il n
 obtain ⟨W, xM, hW⟩ := Ef (A := o) (l := bE hold il n) (H := h2) hG.vw (fun x hx => by
  have := (List.mem_filter.1 hx).1
  rw [List.mem_range] at this; omega) (by omega)
 refine ⟨W, ?_, hW⟩
 have hlen := fo hG.1
 have Pn : Hs.length = H.length + 2 := by rw [jO]; simp
 have f1 : h2[H.length + 1]? = some (.box 41 [.nils]) := by rw [sU hG.1 (by omega), jO]; simp [ae]
 have hone : W.one = true := by rcases hW with rfl | ⟨rfl, _⟩ <;> rfl
 have aB : fin H (h2.set (H.length + 1) (.box 41 [W])) [.agg [W]] = (.agg [W], H) := by
  refine rF hW (o9 (by simp; omega) (fun i hi => ?_))
  rw [List.getElem?_set_ne (by omega), sU hG.1 (by omega), jO, List.getElem?_append_left hi]
 have f2 : (h2.set (H.length + 1) (.box 41 [W]))[H.length + 1]? = some (.box 41 [W]) := List.getElem?_set_self (by omega)
 generalize hh3 : h2.set (H.length + 1) (.box 41 [W]) = h3 at aB f2
 subst jO
 have yO := hC.len
 clear hG hW hF
 rw [ZO (X := X) _ B6 _ rfl rfl]; unfold B6
 refine ro (ew @vQ @hR @yO) ?_
 refine aD ?_
 rw [hc]
 refine ro (d8 @xM @f1 @hone @hh3) ?_
 simp only [Zw, Yc, lk, Za, List.map_cons, List.map_nil, reduceIte, Option.map_some, Nat.reduceEqDiff]
 rw [Zl, f2]
 exact congrArg some aB
theorem KA {H : Zb} {a b : Nat} {lo hi : Int} (ha : H[a]? = some (.box 3 [.int .i64 lo])) (hb : H[b]? = some (.box 3 [.int .i64 hi])) (p : Nat) : E X 34 [.int .i64 p, .ref a 0, .ref b 0] H = some (.bool (decide (lo ≤ (p : Int)) && decide ((p : Int) < hi)), H) := by
 by_cases c : lo ≤ (p : Int)
 ·rw [ZO (X := X) _ B5 _ rfl rfl]; unfold B5; exact rg (ew @ha @hb @c)
 ·rw [ZO (X := X) _ B5 _ rfl rfl]; unfold B5; exact rg (ew @ha @hb @c)
theorem En {H : Zb} {n : Nat} {D B : DV} {ys : List V} {il : List Nat} (hC : ColOk n D B ys il) (lo hi : Int) :
 ∃ W, E X 14 [aI n D B, .int .i64 lo, .int .i64 hi] H = some (.agg [W], H) ∧ WL W (jk (bE (fun p => decide (lo ≤ (p : Int)) && decide ((p : Int) < hi)) il n)) := by
 obtain ⟨Hs, jO⟩ : ∃ Hs, Hs = H ++ [HO.box 25 [.int .i64 n, D, B], .box 3 [.int .i64 lo], .box 3 [.int .i64 hi], .box 41 [.nils]] := ⟨_, rfl⟩
 obtain ⟨W, I2, hW⟩ := KB (H := Hs) (f := 34) (cap := [.ref (H.length + 1) 0, .ref (H.length + 2) 0]) hC (hold := fun p => decide (lo ≤ (p : Int)) && decide ((p : Int) < hi)) (fun G p => KA (by subst jO; rw [List.getElem?_append_left (by simp)]; simp [ae]) (by subst jO; rw [List.getElem?_append_left (by simp)]; simp [ae]) p)
 refine ⟨W, ?_, hW⟩
 subst jO
 have hone : W.one = true := by rcases hW with rfl | ⟨rfl, _⟩ <;> rfl
 have aB : fin H (H ++ [HO.box 25 [.int .i64 n, D, B], .box 3 [.int .i64 lo], .box 3 [.int .i64 hi], .box 41 [W]]) [.agg [W]] = (.agg [W], H) := rF hW (by simp)
 have f2 : (H ++ [HO.box 25 [.int .i64 n, D, B], .box 3 [.int .i64 lo], .box 3 [.int .i64 hi], .box 41 [W]])[H.length + 3]? = some (.box 41 [W]) := by simp [ae]
 rw [ZO (X := X) _ Cd _ rfl rfl]; unfold Cd
 refine ro (cC @I2 @hone) ?_
 simp only [Zw, Yc, lk, Za, List.map_cons, List.map_nil, reduceIte, Option.map_some, Nat.reduceEqDiff]
 rw [Zl, f2]
 exact congrArg some aB
theorem D3 : ∀ (w n : Nat), n < 2 ^ w → wN n ≤ w
 | 0, n, h => by
  have : n = 0 := by simpa using h
  subst this
  exact Nat.le_refl _
 | w + 1, n, h => by
  rcases Nat.eq_zero_or_pos n with rfl | hp
  ·rw [r7]; omega
  ·rw [lz n hp]
   have := D3 w (n / 2) (by rw [Nat.pow_succ] at h; omega)
   omega
def bF (bs : List Nat) (w n : Nat) : List Nat := (List.range n).map fun i => eW bs w i w
theorem dV (bs : List Nat) (w n : Nat) : (bF bs w n).length = n := by simp [bF]
theorem FH {bs : List Nat} {w n : Nat} : ∀ p ∈ bF bs w n, wN p ≤ w := by
 intro p hp
 unfold bF at hp
 obtain ⟨i, _, rfl⟩ := List.mem_map.1 hp
 exact D3 _ _ (sj bs w i w)
def gi (bs : List Nat) (w n : Nat) : Prop := bs.length = (n * w + 7) / 8 ∧ (0 < n * w % 8 → bs.getD (bs.length - 1) 0 / 2 ^ (n * w % 8) = 0)
theorem tE {bs : List Nat} {w n : Nat} (bb : BB bs) (h : gi bs w n) : pack (bF bs w n) w = bs := by
 apply BH
 ·rw [iZ, dV, h.1]
 ·exact po _ _
 ·exact bb
 intro q
 rw [qd, dV]
 by_cases c : q < n * w
 ·have hw : 0 < w := by
   rcases Nat.eq_zero_or_pos w with rfl | h
   ·simp at c
   ·exact h
  have hi : q / w < n := by rw [Nat.div_lt_iff_lt_mul hw]; exact c
  have e : (bF bs w n).getD (q / w) 0 = eW bs w (q / w) w := by
   unfold bF
   rw [List.getD_eq_getElem?_getD]
   simp [hi]
  rw [e, mK]
  have h1 : q % w < w := Nat.mod_lt _ hw
  have e2 : q / w * w + q % w = q := by rw [Nat.mul_comm]; exact Nat.div_add_mod q w
  simp [c, h1, e2]
 ·have : eD bs q = false := by
   unfold eD
   obtain ⟨ha, hb⟩ := h
   generalize n * w = P at *
   by_cases c2 : q / 8 < bs.length
   ·have hr : 0 < P % 8 := by omega
    have h2 := hb hr
    have hq : q / 8 = bs.length - 1 := by omega
    rw [hq]
    have hlt : bs.getD (bs.length - 1) 0 < 2 ^ (P % 8) := by
     rcases Nat.div_eq_zero_iff.1 h2 with h3 | h3
     ·have := Nat.two_pow_pos (P % 8); omega
     ·exact h3
    exact Nat.testBit_lt_two_pow (Nat.lt_of_lt_of_le hlt (Nat.pow_le_pow_right (by omega) (by omega)))
   ·rw [List.getD_eq_getElem?_getD, List.getElem?_eq_none (by omega)]; simp
  rw [this]; simp [c]
theorem Gj {H : Zb} {L : DV} {bs : List Nat} {w n : Nat} (hB : aC L bs) (bb : BB bs) (hw : w ≤ 62) (hb : n ≤ 4096) (h : ¬ gi bs w n) :
 ∃ e : Int, E X 52 [L, .int .i64 n, .int .i64 w] H = some (.tup [.nils, .int .i64 e], H) ∧ (e == 0) = false := by
 have gG := ud w hw H
 have fA := yh n w (by omega) hw H
 have hv := hB.vw H
 have hmul : n * w ≤ 4096 * 62 := Nat.mul_le_mul hb hw
 unfold gi at h
 obtain ⟨P, hP⟩ : ∃ P, P = n * w := ⟨_, rfl⟩
 have z1 : IntKind.i64.wrap ((n : Int) * (w : Int)) = (P : Int) := by
  rw [← Int.natCast_mul, ← hP, wrap64 _ (by omega) (by omega)]
 rw [← hP] at h fA hmul
 obtain ⟨r, hr⟩ : ∃ r, r = P % 8 := ⟨_, rfl⟩
 have z2 : ((P : Int)).tmod 8 = (r : Int) := by rw [Int.tmod_eq_emod_of_nonneg (by omega)]; omega
 obtain ⟨m, hm⟩ : ∃ m, m = (P + 7) / 8 := ⟨_, rfl⟩
 rw [← hm] at h fA
 rw [← hr] at h
 have d1 : ¬ (4096 : Int) < (n : Int) := by omega
 have d2 : ¬ 4096 < n := by omega
 have d3 : ¬ (n : Int) < 0 := by omega
 clear hB
 by_cases c1 : bs.length < m
 ·refine ⟨6, ?_, rfl⟩
  have iY : (bs.length : Int) < (m : Int) := by omega
  rw [ZO (X := X) _ oW _ rfl rfl]; unfold oW; exact rg (eY @gG @fA @hv @z1 @z2 @d1 @d2 @d3 @c1 @iY)
 have iY : ¬ (bs.length : Int) < (m : Int) := by omega
 refine ⟨7, ?_, rfl⟩
 by_cases c2 : m < bs.length
 ·have kH : (m : Int) < (bs.length : Int) := by omega
  rw [ZO (X := X) _ oW _ rfl rfl]; unfold oW; exact rg (lm @gG @fA @hv @z1 @z2 @d1 @d2 @d3 @c1 @iY @c2 @kH)
 have kH : ¬ (m : Int) < (bs.length : Int) := by omega
 have hlen : bs.length = m := by omega
 have h5 : 0 < r ∧ bs.getD (bs.length - 1) 0 / 2 ^ r ≠ 0 := by
  refine ⟨?_, ?_⟩
  ·apply Nat.pos_of_ne_zero
   intro h0
   exact h ⟨hlen, fun h1 => by omega⟩
  ·intro h0
   exact h ⟨hlen, fun _ => h0⟩
 obtain ⟨d5, hne⟩ := h5
 have d4 : (0 : Int) < (r : Int) := by omega
 have d6 : ¬ (r : Int) < 0 := by omega
 obtain ⟨q, hq⟩ : ∃ q, q = m - 1 := ⟨_, rfl⟩
 have jN : q < bs.length := by omega
 have sA : q < m := by omega
 have xn : (bs.map bD)[q]? = some (bD bs[q]) := by simp [jN]
 rw [hlen, ← hq, List.getD_eq_getElem?_getD, List.getElem?_eq_getElem jN] at hne
 have hne : bs[q] / 2 ^ r ≠ 0 := hne
 obtain ⟨x, hx⟩ : ∃ x, x = bs[q] := ⟨_, rfl⟩
 have hx' := hx.symm
 rw [← hx] at hne
 obtain ⟨y, hy⟩ : ∃ y, y = x / 2 ^ r := ⟨_, rfl⟩
 rw [← hy] at hne
 have z3 : IntKind.i64.wrap ((m : Int) - 1) = (q : Int) := wr
 have z4 : ((x : Int)).fdiv (2 ^ min r IntKind.u8.bits) = (y : Int) := by
  rw [show min r IntKind.u8.bits = r from Nat.min_eq_left (by simp [IntKind.bits]; omega), show (2 : Int) ^ r = ((2 ^ r : Nat) : Int) by simp, Int.fdiv_eq_ediv_of_nonneg _ (Int.natCast_nonneg _), ← Int.natCast_ediv, hy]
 have uk : ((x : Int)).fdiv (2 ^ min r 8) = (y : Int) := z4
 have y0 : 0 < y := by omega
 have y1 : (0 : Int) < (y : Int) := by omega
 clear h bb hx hy
 rw [ZO (X := X) _ oW _ rfl rfl]; unfold oW; exact kQ (Nb @gG @fA @hv @z1 @z2 @z3 @z4 @uk @d1 @d2 @d3 @d4 @d5 @d6 @c1 @iY @c2 @kH @hlen @jN @sA @hx' @xn @y0 @y1)
def dU (n : Int) (ys : List V) (bs : List Nat) : Prop := 0 ≤ n ∧ n ≤ 4096 ∧ bJ none ys = true ∧ gi bs (wC ys.length) n.toNat ∧ (∀ p ∈ bF bs (wC ys.length) n.toNat, p < ys.length) ∧ ∀ k, k < ys.length → k ∈ bF bs (wC ys.length) n.toNat
theorem dU.col {n : Int} {ys : List V} {bs : List Nat} {D B : DV} (h : dU n ys bs) (hD : df D ys) (cH : ys.length ≤ 256) (hB : aC B bs) (bb : BB bs) : n = (n.toNat : Int) ∧ ColOk n.toNat D B ys (bF bs (wC ys.length) n.toNat) := by
 obtain ⟨h1, h2, h3, h4, h5, h6⟩ := h
 obtain ⟨u1, u2⟩ := zW _ h3
 refine ⟨by omega, hD, u1, u2, cH, by rw [tE bb h4]; exact hB, dV _ _ _, by omega, fun p => ⟨h5 p, h6 p⟩⟩
theorem FC {H : Zb} {n : Nat} {D B R : DV} {ys : List V} {il : List Nat} (hD : ∀ g, vw g 4 D = some (ys.map V.d)) (hR : ∀ g, vw g 1 R = some (il.map iD)) (hn : il.length = n) (hb : n ≤ 4096) (cH : ys.length ≤ 1000) :
 ∀ (k i : Nat), n - i ≤ k → i ≤ n → (∃ p ∈ il.drop i, ys.length ≤ p) → ∃ h', C X (.loop ff) [(1, .ref H.length 0), (4, R), (5, .int .i64 0), (6, .map (H.length + 1)), (36, R), (37, .int .i64 n), (38, .int .i64 i)] (bG H n D B (Yn (il.take i))) = some (.ret, [(2, .nils), (3, .bool false)], h') ∧ h'.take H.length = H := by
 intro k
 induction k with
 | zero =>
  intro i hk hi hex
  obtain rfl : i = n := by omega
  rw [← hn, List.drop_length] at hex
  obtain ⟨p, hp, _⟩ := hex
  cases hp
 | succ k ih =>
  intro i hk hi hex
  by_cases c : i < n
  ·obtain ⟨I, hI⟩ : ∃ I, I = i + 1 := ⟨_, rfl⟩
   have z1 : IntKind.i64.wrap ((i : Int) + 1) = (I : Int) := wr
   have c' : i < il.length := by omega
   obtain ⟨p, dF⟩ : ∃ p, p = il[i] := ⟨_, rfl⟩
   have eG := dF.symm
   rw [List.drop_eq_getElem_cons c', ← dF, ← hI] at hex
   have f1 : (bG H n D B (Yn (il.take i)))[H.length]? = some (.box 25 [.int .i64 n, D, B]) := by simp [bG]
   have f2 : (bG H n D B (Yn (il.take i)))[H.length + 1]? = some (.map 0 0 (fV (Yn (il.take i)))) := by simp [bG, ae]
   by_cases hlt : p < ys.length
   ·have Ir : ∃ p ∈ il.drop I, ys.length ≤ p := by
     obtain ⟨x, hx, iR⟩ := hex
     rcases List.mem_cons.1 hx with rfl | hx
     ·omega
     ·exact ⟨x, hx, iR⟩
    have AB : Yn (il.take I) = addN (Yn (il.take i)) il[i] := by rw [hI, ← List.take_append_getElem c', qB]
    have hm := yC il[i] (Yn (il.take i))
    rw [← AB, ← dF] at hm
    obtain ⟨h', hc, ht⟩ := ih I (by omega) (by omega) Ir
    refine ⟨h', ?_, ht⟩
    have f3 : (bG H n D B (Yn (il.take i))).set (H.length + 1) (.map 0 0 (fV (Yn (il.take I)))) = bG H n D B (Yn (il.take I)) := by simp [bG, ZX]
    have d1 : ¬ (ys.length : Int) ≤ (p : Int) := by omega
    have d2 : ¬ ys.length ≤ p := by omega
    have kY : eP false [1] (.int .i64 (p : Int)) (.int .i64 (p : Int)) = some true := by have := C3 p p; simpa using this
    have hm : fw false [1] (.int .i64 (p : Int)) (.bool true) (fV (Yn (il.take i))) = some (fV (Yn (il.take I))) := hm
    have hs : C X ff [(1, .ref H.length 0), (4, R), (5, .int .i64 0), (6, .map (H.length + 1)), (36, R), (37, .int .i64 n), (38, .int .i64 i)] (bG H n D B (Yn (il.take i))) = some (.norm, [(1, .ref H.length 0), (4, R), (5, .int .i64 0), (6, .map (H.length + 1)), (36, R), (37, .int .i64 n), (38, .int .i64 I)], bG H n D B (Yn (il.take I))) := by
     clear ih hc AB hex Ir
     generalize bG H n D B (Yn (il.take I)) = P2 at *
     generalize bG H n D B (Yn (il.take i)) = P1 at *
     unfold ff
     refine aT (mU @c @c' @z1 @hR @hD @eG @f1 @f2 @f3 @d1 @d2 @kY @hm) ?_
     simp [Za, lk]
    rw [Zx, hs, ZZ]
    exact hc
   ·have d1 : (ys.length : Int) ≤ (p : Int) := by omega
    have d2 : ys.length ≤ p := by omega
    refine ⟨bG H n D B (Yn (il.take i)), ?_, by simp [bG]⟩
    have hs : C X ff [(1, .ref H.length 0), (4, R), (5, .int .i64 0), (6, .map (H.length + 1)), (36, R), (37, .int .i64 n), (38, .int .i64 i)] (bG H n D B (Yn (il.take i))) = some (.ret, [(2, .nils), (3, .bool false)], bG H n D B (Yn (il.take i))) := by
     clear ih hex
     generalize bG H n D B (Yn (il.take i)) = P1 at *
     unfold ff
     refine aT (eY @c @c' @z1 @hR @hD @eG @f1 @f2 @d1 @d2) ?_
     simp [Za, lk]
    rw [Zx, hs, cQ]
  ·exact ih i (by omega) hi hex
theorem FB (H : Zb) (a b e : DV) : C X (.loop ff) [(1, a), (4, .nils), (5, e), (6, b), (36, .nils), (37, .int .i64 0), (38, .int .i64 0)] H = some (.exit 0, [(1, a), (4, .nils), (5, e), (6, b), (36, .nils), (37, .int .i64 0), (38, .int .i64 0), (39, .bool false)], H) := by
 rw [Zx]
 unfold ff
 refine rn trivial ?_
 rw [ZS]
 simp [Za, lk]
theorem rG {H h : Zb} (ht : h.take H.length = H) : fin H h [.nils, .bool false] = (.tup [.nils, .bool false], H) := by
 simp only [fin]
 rw [if_pos ht]
 rfl
theorem uZ : ∀ (m : Nat) (l : List Nat), l.Nodup → (∀ x ∈ l, x < m) → l.length ≤ m
 | 0, l, _, h => by
  cases l with
  | nil => simp
  | cons a l => exact absurd (h a (List.mem_cons_self ..)) (by omega)
 | m + 1, l, hn, h => by
  have h1 := uZ m (l.erase m) (hn.erase m) (fun x hx => by
   obtain ⟨q1, q2⟩ := hn.mem_erase_iff.1 hx
   have := h x q2
   omega)
  rw [List.length_erase] at h1
  split at h1 <;> omega
theorem CB {il : List Nat} {m : Nat} (h1 : ∀ p ∈ il, p < m) (h2 : ¬ ∀ k, k < m → k ∈ il) : (Yn il).length ≠ m := by
 intro he
 apply h2
 intro k hk
 obtain ⟨hnd, hm⟩ := EP il [] List.nodup_nil
 by_cases c : k ∈ il
 ·exact c
 exfalso
 have hks : k ∉ Yn il := fun h => by
  rcases (hm k).1 h with h | h
  ·cases h
  ·exact c h
 have := uZ m (k :: Yn il) (List.nodup_cons.2 ⟨hks, hnd⟩) (fun x hx => by
  rcases List.mem_cons.1 hx with rfl | hx
  ·exact hk
  ·rcases (hm x).1 hx with h | h
   ·cases h
   ·exact h1 x h)
 rw [List.length_cons, he] at this
 omega
set_option maxHeartbeats 2000000 in
theorem uE {H : Zb} {n : Int} {D B : DV} {ys : List V} {bs : List Nat} (hD : df D ys) (cH : ys.length ≤ 256) (hB : aC B bs) (bb : BB bs) (h : ¬ dU n ys bs) :
 ∃ (R : DV) (il : List Nat), E X 29 [aI n D B] H = some (.tup [R, .bool false], H) ∧ (∀ g, vw g 1 R = some (il.map iD)) ∧ il.length ≤ 4096 ∧ R.one = true := by
 have aU := hD.vw
 have mX := fun g => Ej (h := g) (A := D) (fun l => hD.vw _) (by omega)
 by_cases c1 : n < 0
 ·refine ⟨.nils, [], ?_, fun _ => rfl, by simp, rfl⟩
  rw [ZO (X := X) _ kJ _ rfl rfl]; unfold kJ; exact rg @c1
 by_cases c2 : 4096 < n
 ·refine ⟨.nils, [], ?_, fun _ => rfl, by simp, rfl⟩
  rw [ZO (X := X) _ kJ _ rfl rfl]; unfold kJ; exact rg (cC @c1 @c2)
 obtain ⟨m, rfl⟩ : ∃ m : Nat, n = (m : Int) := ⟨n.toNat, by omega⟩
 have d1 : ¬ 4096 < m := by omega
 cases c3 : bJ none ys
 ·refine ⟨.nils, [], ?_, fun _ => rfl, by simp, rfl⟩
  rw [c3] at mX
  rw [ZO (X := X) _ kJ _ rfl rfl]; unfold kJ; exact rg (d8 @c1 @c2 @d1 @mX)
 rw [c3] at mX
 have pJ : wC ys.length ≤ 62 := by
  have h1 := ij (ys.length - 1) 255 (by omega)
  have h2 : wN 255 = 8 := by decide
  unfold wC; omega
 have k9 := fun g => uf ys.length cH g
 by_cases c4 : gi bs (wC ys.length) m
 case neg =>
  refine ⟨.nils, [], ?_, fun _ => rfl, by simp, rfl⟩
  obtain ⟨e, sM, he⟩ := Gj (H := H ++ [.box 25 [.int .i64 m, D, B]]) hB bb pJ (by omega) c4
  have hl := FB (H ++ [.box 25 [.int .i64 m, D, B], .map 0 0 []]) (.ref H.length 0) (.map (H.length + 1)) (.int .i64 e)
  have aB : fin H (H ++ [.box 25 [.int .i64 m, D, B], .map 0 0 []]) [.nils, .bool false] = _ := rG (by simp)
  generalize wC ys.length = w at *
  clear h c4 hB bb
  rw [ZO (X := X) _ kJ _ rfl rfl]; unfold kJ
  have hv0 : ∀ g, vw g 1 .nils = some [] := fun _ => rfl
  refine Ep (gN @mX @aU @k9 @sM @c1 @c2 @d1 @hv0) ?_
  refine aD ?_
  rw [hl]
  refine rn (cC @he @aU) ?_
  simp only [Zw, Yc, lk, Za, List.map_cons, List.map_nil, reduceIte, Option.map_some, Nat.reduceEqDiff, aB]
 have hpk := tE bb c4
 obtain ⟨il, hil⟩ : ∃ il, il = bF bs (wC ys.length) m := ⟨_, rfl⟩
 have hn : il.length = m := by rw [hil]; exact dV _ _ _
 have IE : aC B (pack il (wC ys.length)) := by rw [hil, hpk]; exact hB
 have hwn : ∀ p ∈ il, wN p ≤ wC ys.length := by rw [hil]; exact FH
 obtain ⟨R, sM, hR⟩ := Ei (H := H ++ [.box 25 [.int .i64 m, D, B]]) IE pJ hn (by omega) hwn
 have jw : ∀ g, vw g 1 R = some (il.map iD) := fun g => by rcases hR with ⟨rfl, rfl⟩ | rfl <;> rfl
 have AY : R.one = true := by rcases hR with ⟨rfl, rfl⟩ | rfl <;> rfl
 have hi0 : bG H m D B (Yn (il.take 0)) = H ++ [.box 25 [.int .i64 m, D, B], .map 0 0 []] := rfl
 by_cases c5 : ∀ p ∈ il, p < ys.length
 case neg =>
  refine ⟨.nils, [], ?_, fun _ => rfl, by simp, rfl⟩
  have hex : ∃ p ∈ il.drop 0, ys.length ≤ p := by
   rw [List.drop_zero]
   by_cases q : ∃ p ∈ il, ys.length ≤ p
   ·exact q
   ·exfalso
    apply c5
    intro p hp
    by_cases q2 : p < ys.length
    ·exact q2
    ·exact absurd ⟨p, hp, by omega⟩ q
  obtain ⟨h', hl, ht⟩ := FC (H := H) (D := D) (B := B) (R := R) aU jw hn (by omega) (by omega) m 0 (by omega) (by omega) hex
  rw [hi0, show ((0 : Nat) : Int) = 0 from rfl] at hl
  have aB := rG ht
  generalize wC ys.length = w at *
  clear h c4 hB bb hex c5 hpk hil IE hwn hi0
  rw [ZO (X := X) _ kJ _ rfl rfl]; unfold kJ
  refine Ep (jC @mX @aU @k9 @sM @c1 @c2 @d1 @jw @hn) ?_
  refine aD ?_
  rw [hl]
  refine rn trivial ?_
  simp only [Zw, Yc, lk, Za, List.map_cons, List.map_nil, reduceIte, Option.map_some, Nat.reduceEqDiff, aB]
 have c6 : ¬ ∀ k, k < ys.length → k ∈ il := fun h6 => h ⟨by omega, by omega, c3, c4, by rw [Int.toNat_natCast, ← hil]; exact c5, by rw [Int.toNat_natCast, ← hil]; exact h6⟩
 refine ⟨R, il, ?_, jw, by omega, AY⟩
 obtain ⟨y, ex, hc⟩ := Ak (H := H) (D := D) (B := B) (R := R) aU jw hn (by omega) c5 (by omega) m 0 (by omega) (by omega)
 rw [hi0, show ((0 : Nat) : Int) = 0 from rfl] at hc
 have f1 : (bG H m D B (Yn il))[H.length]? = some (.box 25 [.int .i64 m, D, B]) := by simp [bG]
 have f2 : (bG H m D B (Yn il))[H.length + 1]? = some (.map 0 0 (fV (Yn il))) := by simp [bG, ae]
 have f3 : ((fV (Yn il)).length : Int) ≠ (ys.length : Int) := by
  have := CB c5 c6
  rw [fV, List.length_map]; omega
 have OU : (((fV (Yn il)).length : Int) == (ys.length : Int)) = false := by simpa using f3
 have Nh : ((fV (Yn il)).length == ys.length) = false := by simp only [beq_eq_false_iff_ne]; omega
 have OT : (fV (Yn il)).length ≠ ys.length := by omega
 have f4 : (bG H m D B (Yn il)).take H.length = H := by simp [bG]
 have aB : fin H (bG H m D B (Yn il)) [R, .bool false] = (.tup [R, .bool false], H) := by
  simp only [fin]
  rw [if_pos f4]
  rcases hR with ⟨rfl, _⟩ | rfl <;> rfl
 generalize bG H m D B (Yn il) = P at *
 generalize fV (Yn il) = es at *
 generalize wC ys.length = w at *
 clear h c4 hB bb c5 c6 hpk hil IE hwn hi0
 rw [ZO (X := X) _ kJ _ rfl rfl]; unfold kJ
 refine Ep (jC @mX @aU @k9 @sM @c1 @c2 @d1 @jw @hn) ?_
 refine aD ?_
 rw [hc]
 refine rn (kE @f1 @f2 @f3 @OU @Nh @OT @aU) ?_
 simp only [Zw, Yc, lk, Za, List.map_cons, List.map_nil, reduceIte, Option.map_some, Nat.reduceEqDiff, aB]
open Classical in
theorem qH {n : Int} {D B : DV} {ys : List V} {bs : List Nat} (hD : df D ys) (cH : ys.length ≤ 256) (hB : aC B bs) (bb : BB bs) (H : Zb) : E X 19 [aI n D B] H = some (.bool (decide (dU n ys bs)), H) := by
 by_cases h : dU n ys bs
 ·obtain ⟨hn, hC⟩ := h.col hD cH hB bb
  rw [decide_eq_true h, hn]
  exact pn hC H
 ·rw [decide_eq_false h]
  obtain ⟨R, il, vQ, _⟩ := uE (H := H ++ [.box 25 [.int .i64 n, D, B]]) hD cH hB bb h
  rw [ZO (X := X) _ Cb _ rfl rfl]; unfold Cb; exact rg @vQ
end Go.Proofs.YteekbciaggmfgaaDoor
namespace Go.Proofs.YteekbciaggmfgaaDoor
set_option linter.unusedVariables false
set_option linter.unusedSimpArgs false
set_option maxRecDepth 10000
structure SC where
 ys : List V
 il : List Nat
def v0 : V := ⟨0, 0, ⟨#[]⟩, false⟩
def SC.val (c : SC) (i : Nat) : V := c.ys.getD (c.il.getD i 0) v0
structure SC.Ok (n : Nat) (c : SC) : Prop where
 up : Up c.ys
 may : ∀ x ∈ c.ys, aG x = true
 len : c.il.length = n
 lt : ∀ p ∈ c.il, p < c.ys.length
theorem SC.Ok.get {n : Nat} {c : SC} (h : c.Ok n) {i : Nat} (hi : i < n) : ∃ p : Nat, c.il[i]? = some p ∧ c.il.getD i 0 = p ∧ c.ys[p]? = some (c.val i) ∧ p < c.ys.length := by
 have hil : i < c.il.length := by rw [h.len]; exact hi
 have h1 : c.il[i]? = some c.il[i] := List.getElem?_eq_getElem hil
 have h2 : c.il.getD i 0 = c.il[i] := by rw [List.getD_eq_getElem?_getD, h1]; rfl
 have h3 := h.lt _ (List.getElem_mem hil)
 refine ⟨c.il[i], h1, h2, ?_, h3⟩
 unfold SC.val
 rw [h2, List.getD_eq_getElem?_getD, List.getElem?_eq_getElem h3]
 rfl
end Go.Proofs.YteekbciaggmfgaaDoor
