/- Ideal runs. -/
import Derived.Test.YtmbgfbomgbdjeaaGreatDoorColA
import Derived.Test.YtmbgfbomgbdjeaaGreatDoorStep
import Derived.Test.YtmbgfbomgbdjeaaGreatDoorPlainQ
import Derived.Test.YtmbgfbomgbdjeaaGreatDoorNod
namespace Go.Proofs.YtmbgfbomgbdjeaaGreatDoor
set_option linter.unusedVariables false
set_option linter.unusedSimpArgs false
set_option maxRecDepth 10000
def gN (bs : List Nat) (w i : Nat) : Nat → Nat
 | 0 => 0
 | k + 1 => gN bs w i k ||| (bs.getD ((i * w + k) / 8) 0 / 2 ^ ((i * w + k) % 8) % 2) * 2 ^ k
theorem Ku (bs : List Nat) (q : Nat) : decide (bs.getD (q / 8) 0 / 2 ^ (q % 8) % 2 = 1) = fK bs q := by rw [Dl]; rfl
theorem KV {c k : Nat} (hc : c ≤ 1) (j : Nat) : (c * 2 ^ k).testBit j = (decide (j = k) && decide (c = 1)) := by
 rcases (by omega : c = 0 ∨ c = 1) with rfl | rfl
 ·simp
 ·rw [Nat.one_mul, Nat.testBit_two_pow]
  simp [eq_comm]
theorem qC (bs : List Nat) (w i : Nat) : ∀ (k j : Nat), (gN bs w i k).testBit j = (decide (j < k) && fK bs (i * w + j))
 | 0, j => by simp [gN]
 | k + 1, j => by
  rw [gN, Nat.testBit_or, qC bs w i k j, KV (by omega), Ku]
  by_cases h1 : j = k
  ·subst h1; simp
  ·by_cases h2 : j < k
   ·have h3 : j < k + 1 := by omega
    simp [h1, h2, h3]
   ·have h3 : ¬ j < k + 1 := by omega
    simp [h1, h2, h3]
theorem wL (bs : List Nat) (w i : Nat) : ∀ k, gN bs w i k < 2 ^ k
 | 0 => by simp [gN]
 | k + 1 => by
  have h1 := wL bs w i k
  rw [gN]
  have h2 : bs.getD ((i * w + k) / 8) 0 / 2 ^ ((i * w + k) % 8) % 2 ≤ 1 := by omega
  generalize bs.getD ((i * w + k) / 8) 0 / 2 ^ ((i * w + k) % 8) % 2 = c at *
  have h3 : 2 ^ (k + 1) = 2 ^ k + 2 ^ k := by rw [Nat.pow_succ]; omega
  have h4 : c * 2 ^ k ≤ 1 * 2 ^ k := Nat.mul_le_mul_right (2 ^ k) h2
  apply Nat.or_lt_two_pow
  ·omega
  ·omega
theorem Q5 (n : Nat) : n < 2 ^ wN n := by
 induction n using Nat.strongRecOn with
 | _ n ih =>
  rcases Nat.eq_zero_or_pos n with rfl | hp
  ·exact Nat.two_pow_pos _
  ·rw [pC n hp, Nat.pow_succ]
   have := ih (n / 2) (by omega)
   omega
theorem rM (l : List Nat) (w i : Nat) (h : i < l.length) (hw : wN l[i] ≤ w) : gN (pack l w) w i w = l[i] := by
 apply Nat.eq_of_testBit_eq
 intro j
 rw [qC, uo]
 have hlt : l[i] < 2 ^ w := Nat.lt_of_lt_of_le (Q5 _) (Nat.pow_le_pow_right (by omega) hw)
 by_cases c : j < w
 ·have h1 : i * w + j < l.length * w := by
   have : i * w + w ≤ l.length * w := by rw [← Nat.succ_mul]; exact Nat.mul_le_mul_right w h
   omega
  have h2 : (i * w + j) / w = i := by
   rw [Nat.mul_comm, Nat.mul_add_div (by omega), Nat.div_eq_of_lt c, Nat.add_zero]
  have h3 : (i * w + j) % w = j := by
   rw [Nat.mul_comm, Nat.mul_add_mod, Nat.mod_eq_of_lt c]
  rw [h2, h3, List.getD_eq_getElem?_getD, List.getElem?_eq_getElem h]
  simp [c, h1]
 ·rw [Nat.testBit_lt_two_pow (Nat.lt_of_lt_of_le hlt (Nat.pow_le_pow_right (by omega) (by omega)))]
  simp [c]
def nh (H : Zb) (L : DV) (x : Nat) : Zb := H ++ [.box 68 [L], .box 3 [.int .i64 x]]
theorem Mw {H : Zb} {L : DV} {bs : List Nat} (hL : ∀ g, vw g 1 L = some (bs.map bD)) (bb : BB bs) {x a k : Nat} (ha : a / 8 < bs.length) (ha' : a < 10000000) (hk : k ≤ 61) (hx : x < 2 ^ k) :
 E X 130 [.int .i64 a, .int .i64 k, .ref (H.length + 1) 0, .ref H.length 0] (nh H L x) = some (.tup [], nh H L (x ||| (bs.getD (a / 8) 0 / 2 ^ (a % 8) % 2) * 2 ^ k)) := by
 obtain ⟨p, hp⟩ : ∃ p, p = a / 8 := ⟨_, rfl⟩
 obtain ⟨j, hj⟩ : ∃ j, j = a % 8 := ⟨_, rfl⟩
 have hp' : p < bs.length := by omega
 have e1 : bs.getD p 0 = bs[p] := by rw [List.getD_eq_getElem?_getD, List.getElem?_eq_getElem hp']; rfl
 have hb := bb _ (List.getElem_mem hp')
 rw [← hp, ← hj, e1]
 obtain ⟨b, hbb⟩ : ∃ b, b = bs[p] := ⟨_, rfl⟩
 have wT := hbb.symm
 rw [← hbb] at hb ⊢
 obtain ⟨q, hq⟩ : ∃ q, q = b / 2 ^ j := ⟨_, rfl⟩
 obtain ⟨c, hc⟩ : ∃ c, c = q % 2 := ⟨_, rfl⟩
 rw [← hq, ← hc]
 have hc1 : c ≤ 1 := by omega
 have Wl : q ≤ b := by rw [hq]; exact Nat.div_le_self _ _
 have zT : c * 2 ^ k < 2 ^ 62 := by
  have h1 : 2 ^ k ≤ 2 ^ 61 := Nat.pow_le_pow_right (by omega) hk
  have h2 : c * 2 ^ k ≤ 1 * 2 ^ 61 := Nat.mul_le_mul hc1 h1
  have h3 : (2 : Nat) ^ 62 = 2 * 2 ^ 61 := by decide
  have h4 : 0 < (2 : Nat) ^ 61 := Nat.two_pow_pos _
  omega
 have NK : x < 2 ^ 62 := Nat.lt_of_lt_of_le hx (Nat.pow_le_pow_right (by omega) (by omega))
 have J0 : x ||| c * 2 ^ k < 2 ^ 62 := Nat.or_lt_two_pow NK zT
 have VE : (2 : Nat) ^ 62 = 4611686018427387904 := by decide
 rw [VE] at zT NK J0
 have f1 : (nh H L x)[H.length]? = some (.box 68 [L]) := by simp [nh]
 have f2 : (nh H L x)[H.length + 1]? = some (.box 3 [.int .i64 x]) := by simp [nh, ae]
 have f3 : ∀ y, (nh H L x).set (H.length + 1) (.box 3 [.int .i64 y]) = H ++ [.box 68 [L], .box 3 [.int .i64 y]] := fun y => by simp [nh, Ya]
 have f5 : fin (nh H L x) (nh H L (x ||| c * 2 ^ k)) [] = _ := Ii (by simp [nh])
 have f6 : H ++ [.box 68 [L], .box 3 [.int .i64 (x ||| c * 2 ^ k : Nat)]] = nh H L (x ||| c * 2 ^ k) := rfl
 have z1 : IntKind.i64.wrap ((a : Int) / 8) = (p : Int) := wr
 have z2 : ((a : Int)).tmod 8 = (j : Int) := by rw [Int.tmod_eq_emod_of_nonneg (by omega)]; omega
 have z3 : ((b : Int)).fdiv (2 ^ min j IntKind.u8.bits) = (q : Int) := by
  rw [show min j IntKind.u8.bits = j from Nat.min_eq_left (by simp [IntKind.bits]; omega), show (2 : Int) ^ j = ((2 ^ j : Nat) : Int) by simp, Int.fdiv_eq_ediv_of_nonneg _ (Int.natCast_nonneg _), hq]
  rfl
 have z4 : IntKind.u8.wrap ((q % 2 ^ IntKind.u8.bits &&& 1 % 2 ^ IntKind.u8.bits : Nat) : Int) = (c : Int) := by
  rw [show 2 ^ IntKind.u8.bits = 256 from rfl, Nat.mod_eq_of_lt (by omega), show 1 % 256 = 2 ^ 1 - 1 from rfl, Nat.and_two_pow_sub_one_eq_mod, yF (by omega), hc]
 have z5 : IntKind.i64.wrap (c : Int) = (c : Int) := wrap64 _ (by omega) (by omega)
 have z6 : IntKind.i64.wrap ((c : Int) * 2 ^ min k IntKind.i64.bits) = ((c * 2 ^ k : Nat) : Int) := by
  rw [show min k IntKind.i64.bits = k from Nat.min_eq_left (by simp [IntKind.bits]; omega), show (2 : Int) ^ k = ((2 ^ k : Nat) : Int) by simp, ← Int.natCast_mul, wrap64 _ (by omega) (by omega)]
 have d0 : ¬ (j : Int) < 0 := by omega
 have d1 : ¬ (k : Int) < 0 := by omega
 generalize c * 2 ^ k = ck at *
 have z7 : IntKind.i64.wrap ((x % 2 ^ IntKind.i64.bits ||| ck % 2 ^ IntKind.i64.bits : Nat) : Int) = ((x ||| ck : Nat) : Int) := by
  rw [show 2 ^ IntKind.i64.bits = 18446744073709551616 from rfl, Nat.mod_eq_of_lt (by omega), Nat.mod_eq_of_lt (by omega), wrap64 _ (by omega) (by omega)]
 have Kc := hL (nh H L x)
 generalize x ||| ck = ob at *
 generalize nh H L ob = P2 at *
 generalize nh H L x = P1 at *
 rw [Zv (X := X) _ IW _ rfl rfl]; unfold IW
 (repeat (first | rw [ZN] | rw [Zw (by simp [ZK, ZF, ZE, ZG, Zs, Zi, Zp, Zl, Zn, Ze, Zf, Zm, Zt, Zu, ZH, ↓Zk, Zr, Zj, ZD, Zz, Zy, ZW, ZA, Yo, put, lk, Od.v, Za, Zg, Zo, aj, Yd, Ye, Yc, au, eqk, DV.isU, DV.cells, ae, ZP, Ya, ZO, Zq, splice, DV.one, ZQ, af, ZX, eqs, f1, f2, f3, f6, Kc, z1, z2, z3, z4, z5, z6, z7, d0, d1, aG, hp', wT]; exact ⟨rfl, rfl⟩)] | rw [Yj (by simp [lk, Za, Od.v, f1, f2, f3, f6, Kc, z1, z2, z3, z4, z5, z6, z7, d0, d1, aG, hp', wT]; exact rfl)] | rw [Zz] | rw [Zy] | rw [Yb] | rw [Ys] | rw [Yf] | rw [Yr] | rw [Yh] | rw [Yg] | rw [ZY] | rw [ZT] | rw [ZU] | rw [ZM (by decide)] | rw [ZR] | rw [ZJ] | rw [ZL] | rw [ZI (by decide)] | rw [Yv] | rw [Yt (by simp [ZK, ZF, ZE, ZG, Zs, Zi, Zp, Zl, Zn, Ze, Zf, Zm, Zt, Zu, ZH, ↓Zk, Zr, Zj, ZD, Zz, Zy, ZW, ZA, Yo, put, lk, Od.v, Za, Zg, Zo, aj, Yd, Ye, Yc, au, eqk, DV.isU, DV.cells, ae, ZP, Ya, ZO, Zq, splice, DV.one, ZQ, af, ZX, eqs, f1, f2, f3, f6, Kc, z1, z2, z3, z4, z5, z6, z7, d0, d1, aG, hp', wT]; exact ⟨rfl, rfl⟩)] | rw [Yu (by simp [lk, Za, Od.v, f1, f2, f3, f6, Kc, z1, z2, z3, z4, z5, z6, z7, d0, d1, aG, hp', wT]; exact rfl)] | rw [Yq]))
 rw [ZS]
 simp only [ZV, Option.map_some, f5]
theorem Ec {H : Zb} {L : DV} {bs : List Nat} (hB : bK L bs) (bb : BB bs) {w i : Nat} (hw : w ≤ 62) (hi : i ≤ 100000) (hlen : i * w + w ≤ 8 * bs.length) :
 E X 105 [L, .int .i64 i, .int .i64 w] H = some (.int .i64 (gN bs w i w : Nat), H) := by
 have hmul : i * w ≤ 100000 * 62 := Nat.mul_le_mul hi hw
 have jb := Jv (f := 130) (w := w) (i := i) (cap := [.ref (H.length + 1) 0, .ref H.length 0]) (S := fun k => nh H L (gN bs w i k)) hw hi
  (fun k hk => Mw hB.vw bb (by omega) (by omega) (by omega) (wL bs w i k)) (by simp [nh])
 simp only [nh, gN] at jb
 generalize gN bs w i w = r at *
 have jb : E X 93 [.int .i64 i, .int .i64 w, .func 130 [] [.ref (H.length + 1) 0, .ref H.length 0]] (H ++ [.box 68 [L], .box 3 [.int .i64 0]]) = some (.tup [], H ++ [.box 68 [L], .box 3 [.int .i64 r]]) := jb
 rcases hB with ⟨rfl, rfl⟩ | rfl
 ·rw [Zv (X := X) _ AP _ rfl rfl]; unfold AP; (repeat (first | rw [ZN] | rw [Zw (by simp [ZK, ZF, ZE, ZG, Zs, Zi, Zp, Zl, Zn, Ze, Zf, Zm, Zt, Zu, ZH, ↓Zk, Zr, Zj, ZD, Zz, Zy, ZW, ZA, Yo, put, lk, Od.v, Za, Zg, Zo, aj, Yd, Ye, Yc, au, eqk, DV.isU, DV.cells, ae, ZP, Ya, ZO, Zq, splice, DV.one, ZQ, af, ZX, eqs, jb]; exact ⟨rfl, rfl⟩)] | rw [Yj (by simp [lk, Za, Od.v, jb]; exact rfl)] | rw [Zz] | rw [Zy] | rw [Yb] | rw [Ys] | rw [Yf] | rw [Yr] | rw [Yh] | rw [Yg] | rw [ZY] | rw [ZT] | rw [ZU] | rw [ZM (by decide)] | rw [ZR] | rw [ZJ] | rw [ZL] | rw [ZI (by decide)] | rw [Yv] | rw [Yt (by simp [ZK, ZF, ZE, ZG, Zs, Zi, Zp, Zl, Zn, Ze, Zf, Zm, Zt, Zu, ZH, ↓Zk, Zr, Zj, ZD, Zz, Zy, ZW, ZA, Yo, put, lk, Od.v, Za, Zg, Zo, aj, Yd, Ye, Yc, au, eqk, DV.isU, DV.cells, ae, ZP, Ya, ZO, Zq, splice, DV.one, ZQ, af, ZX, eqs, jb]; exact ⟨rfl, rfl⟩)] | rw [Yu (by simp [lk, Za, Od.v, jb]; exact rfl)] | rw [Yq])); simp [Zh, ZS, ZV, ZK, ZF, ZE, ZG, Zs, Zi, Zp, Zl, Zn, Ze, Zf, Zm, Zt, Zu, ZH, ↓Zk, Zr, Zj, ZD, Zz, Zy, ZW, ZA, Yo, put, lk, Od.v, Za, Zg, Zo, aj, Yd, Ye, Yc, au, eqk, DV.isU, DV.cells, ae, ZP, Ya, ZO, Zq, splice, DV.one, ZQ, af, ZX, eqs, fin, aJ, aH, bJ, dr, eG, jb]
 ·rw [Zv (X := X) _ AP _ rfl rfl]; unfold AP; (repeat (first | rw [ZN] | rw [Zw (by simp [ZK, ZF, ZE, ZG, Zs, Zi, Zp, Zl, Zn, Ze, Zf, Zm, Zt, Zu, ZH, ↓Zk, Zr, Zj, ZD, Zz, Zy, ZW, ZA, Yo, put, lk, Od.v, Za, Zg, Zo, aj, Yd, Ye, Yc, au, eqk, DV.isU, DV.cells, ae, ZP, Ya, ZO, Zq, splice, DV.one, ZQ, af, ZX, eqs, jb]; exact ⟨rfl, rfl⟩)] | rw [Yj (by simp [lk, Za, Od.v, jb]; exact rfl)] | rw [Zz] | rw [Zy] | rw [Yb] | rw [Ys] | rw [Yf] | rw [Yr] | rw [Yh] | rw [Yg] | rw [ZY] | rw [ZT] | rw [ZU] | rw [ZM (by decide)] | rw [ZR] | rw [ZJ] | rw [ZL] | rw [ZI (by decide)] | rw [Yv] | rw [Yt (by simp [ZK, ZF, ZE, ZG, Zs, Zi, Zp, Zl, Zn, Ze, Zf, Zm, Zt, Zu, ZH, ↓Zk, Zr, Zj, ZD, Zz, Zy, ZW, ZA, Yo, put, lk, Od.v, Za, Zg, Zo, aj, Yd, Ye, Yc, au, eqk, DV.isU, DV.cells, ae, ZP, Ya, ZO, Zq, splice, DV.one, ZQ, af, ZX, eqs, jb]; exact ⟨rfl, rfl⟩)] | rw [Yu (by simp [lk, Za, Od.v, jb]; exact rfl)] | rw [Yq])); simp [Zh, ZS, ZV, ZK, ZF, ZE, ZG, Zs, Zi, Zp, Zl, Zn, Ze, Zf, Zm, Zt, Zu, ZH, ↓Zk, Zr, Zj, ZD, Zz, Zy, ZW, ZA, Yo, put, lk, Od.v, Za, Zg, Zo, aj, Yd, Ye, Yc, au, eqk, DV.isU, DV.cells, ae, ZP, Ya, ZO, Zq, splice, DV.one, ZQ, af, ZX, eqs, fin, aJ, aH, bJ, dr, eG, jb]
def rh (H : Zb) (cur : List Nat) : Zb := H ++ [.row 3 1 0 (cur.map iD)]
theorem xD (l : List Nat) (w : Nat) (h : 0 < l.length * w % 8) : (pack l w).getD ((l.length * w + 7) / 8 - 1) 0 < 2 ^ (l.length * w % 8) := by
 apply Nat.lt_pow_two_of_testBit
 intro j hj
 by_cases c : j < 8
 ·have := uo l w (8 * ((l.length * w + 7) / 8 - 1) + j)
  unfold fK at this
  rw [show (8 * ((l.length * w + 7) / 8 - 1) + j) / 8 = (l.length * w + 7) / 8 - 1 by omega, show (8 * ((l.length * w + 7) / 8 - 1) + j) % 8 = j by omega] at this
  rw [this]
  have : ¬ 8 * ((l.length * w + 7) / 8 - 1) + j < l.length * w := by omega
  simp [this]
 ·have hb := (pJ l w).getD ((l.length * w + 7) / 8 - 1)
  have hp : 256 ≤ 2 ^ j := Nat.le_trans (by decide : 256 ≤ 2 ^ 8) (Nat.pow_le_pow_right (by omega) (by omega))
  exact Nat.testBit_lt_two_pow (by omega)
theorem Lh {H : Zb} {L : DV} {l : List Nat} {w n : Nat} (hB : bK L (pack l w)) (hw : w ≤ 62) (hn : l.length = n) (hb : n ≤ 4096) (hl : ∀ p ∈ l, wN p ≤ w) :
 ∀ (k i : Nat) (cur : List Nat), n - i ≤ k → i ≤ n → cur.length = n → (∀ j, j < i → cur[j]? = l[j]?) →
  ∃ y ex, C X (.loop pW) [(0, L), (2, .int .i64 w), (8, .row H.length 0 0 n false), (55, .int .i64 n), (56, .int .i64 i)] (rh H cur) = some (.exit 1, (0, L) :: (2, .int .i64 w) :: (8, .row H.length 0 0 n false) :: (55, .int .i64 n) :: (56, y) :: ex, rh H l) := by
 intro k
 induction k with
 | zero =>
  intro i cur hk hi hc h1
  obtain rfl : i = n := by omega
  have hcl : cur = l := by
   apply List.ext_getElem?
   intro j
   by_cases c : j < i
   ·exact h1 j c
   ·rw [List.getElem?_eq_none (by omega), List.getElem?_eq_none (by omega)]
  rw [hcl]
  refine ⟨.int .i64 i, [(57, .bool false)], ?_⟩
  generalize rh H l = P
  rw [Zc]
  unfold pW
  (repeat (first | rw [ZN] | rw [Zw (by simp [ZK, ZF, ZE, ZG, Zs, Zi, Zp, Zl, Zn, Ze, Zf, Zm, Zt, Zu, ZH, ↓Zk, Zr, Zj, ZD, Zz, Zy, ZW, ZA, Yo, put, lk, Od.v, Za, Zg, Zo, aj, Yd, Ye, Yc, au, eqk, DV.isU, DV.cells, ae, ZP, Ya, ZO, Zq, splice, DV.one, ZQ, af, ZX, eqs]; exact ⟨rfl, rfl⟩)] | rw [Yj (by simp [lk, Za, Od.v]; exact rfl)] | rw [Zz] | rw [Zy] | rw [Yb] | rw [Ys] | rw [Yf] | rw [Yr] | rw [Yh] | rw [Yg] | rw [ZY] | rw [ZT] | rw [ZU] | rw [ZM (by decide)] | rw [ZR] | rw [ZJ] | rw [ZL] | rw [ZI (by decide)] | rw [Yv] | rw [Yt (by simp [ZK, ZF, ZE, ZG, Zs, Zi, Zp, Zl, Zn, Ze, Zf, Zm, Zt, Zu, ZH, ↓Zk, Zr, Zj, ZD, Zz, Zy, ZW, ZA, Yo, put, lk, Od.v, Za, Zg, Zo, aj, Yd, Ye, Yc, au, eqk, DV.isU, DV.cells, ae, ZP, Ya, ZO, Zq, splice, DV.one, ZQ, af, ZX, eqs]; exact ⟨rfl, rfl⟩)] | rw [Yu (by simp [lk, Za, Od.v]; exact rfl)] | rw [Yq]))
  rw [Zx]
  simp [Za, lk]
 | succ k ih =>
  intro i cur hk hi hc h1
  by_cases c : i < n
  ·obtain ⟨I, hI⟩ : ∃ I, I = i + 1 := ⟨_, rfl⟩
   have z1 : IntKind.i64.wrap ((i : Int) + 1) = (I : Int) := wr
   have hil : i < l.length := by omega
   have hpl : i * w + w ≤ l.length * w := by rw [← Nat.succ_mul]; exact Nat.mul_le_mul_right w hil
   have sM := Ec (H := rh H cur) hB (pJ l w) hw (i := i) (by omega) (by rw [gM]; omega)
   rw [rM l w i hil (hl _ (List.getElem_mem hil))] at sM
   have hrow : (rh H cur)[H.length]? = some (.row 3 1 0 (cur.map iD)) := by simp [rh]
   have r1 := pG hrow hc
   have r2 := zh hrow hc c l[i]
   have Ya : (rh H cur).set H.length (.row 3 1 0 ((cur.set i l[i]).map iD)) = rh H (cur.set i l[i]) := by simp [rh, ZO]
   rw [Ya] at r2
   obtain ⟨y, ex, hc2⟩ := ih I (cur.set i l[i]) (by omega) (by omega) (by simpa using hc) (fun j hj => by
    by_cases hji : j = i
    ·subst hji
     rw [List.getElem?_set_self (by omega), List.getElem?_eq_getElem hil]
    ·rw [List.getElem?_set_ne (Ne.symm hji)]; exact h1 j (by omega))
   refine ⟨y, ex, ?_⟩
   have hs : C X pW [(0, L), (2, .int .i64 w), (8, .row H.length 0 0 n false), (55, .int .i64 n), (56, .int .i64 i)] (rh H cur) = some (.norm, [(0, L), (2, .int .i64 w), (8, .row H.length 0 0 n false), (55, .int .i64 n), (56, .int .i64 I)], rh H (cur.set i l[i])) := by
    clear ih hc2 hB hl h1 Ya hrow
    generalize rh H (cur.set i l[i]) = P2 at *
    generalize rh H cur = P1 at *
    generalize l[i] = x at *
    unfold pW
    (repeat (first | rw [ZN] | rw [Zw (by simp [ZK, ZF, ZE, ZG, Zs, Zi, Zp, Zl, Zn, Ze, Zf, Zm, Zt, Zu, ZH, ↓Zk, Zr, Zj, ZD, Zz, Zy, ZW, ZA, Yo, put, lk, Od.v, Za, Zg, Zo, aj, Yd, Ye, Yc, au, eqk, DV.isU, DV.cells, ae, ZP, Ya, ZO, Zq, splice, DV.one, ZQ, af, ZX, eqs, c, z1, sM, r1, r2, hc]; exact ⟨rfl, rfl⟩)] | rw [Yj (by simp [lk, Za, Od.v, c, z1, sM, r1, r2, hc]; exact rfl)] | rw [Zz] | rw [Zy] | rw [Yb] | rw [Ys] | rw [Yf] | rw [Yr] | rw [Yh] | rw [Yg] | rw [ZY] | rw [ZT] | rw [ZU] | rw [ZM (by decide)] | rw [ZR] | rw [ZJ] | rw [ZL] | rw [ZI (by decide)] | rw [Yv] | rw [Yt (by simp [ZK, ZF, ZE, ZG, Zs, Zi, Zp, Zl, Zn, Ze, Zf, Zm, Zt, Zu, ZH, ↓Zk, Zr, Zj, ZD, Zz, Zy, ZW, ZA, Yo, put, lk, Od.v, Za, Zg, Zo, aj, Yd, Ye, Yc, au, eqk, DV.isU, DV.cells, ae, ZP, Ya, ZO, Zq, splice, DV.one, ZQ, af, ZX, eqs, c, z1, sM, r1, r2, hc]; exact ⟨rfl, rfl⟩)] | rw [Yu (by simp [lk, Za, Od.v, c, z1, sM, r1, r2, hc]; exact rfl)] | rw [Yq]))
    simp [Za, lk]
   rw [Zc, hs, ZB]
   exact hc2
  ·exact ih i cur (by omega) hi hc h1
theorem Ea {H : Zb} {L : DV} {l : List Nat} {w n : Nat} (hB : bK L (pack l w)) (hw : w ≤ 62) (hn : l.length = n) (hb : n ≤ 4096) (hl : ∀ p ∈ l, wN p ≤ w) :
 ∃ R, E X 129 [L, .int .i64 n, .int .i64 w] H = some (.tup [R, .int .i64 0], H) ∧ ((R = .nils ∧ l = []) ∨ R = .list 1 (l.map iD) false) := by
 have jc := yI w hw H
 have iv := Ci n w (by omega) hw H
 have hv := hB.vw H
 have hpl := gM l w
 have hla := xD l w
 rw [hn] at hpl hla
 obtain ⟨y, ex, hc⟩ := Lh (H := H) hB hw hn hb hl n 0 (List.replicate n 0) (by omega) (by omega) (by simp) (fun j hj => by omega)
 have hr0 : rh H (List.replicate n 0) = H ++ [.row 3 1 0 (List.replicate n (.int .i64 0))] := by simp [rh]
 rw [hr0, show ((0 : Nat) : Int) = 0 from rfl] at hc
 have gF : Grow 3 iD H (rh H l) (.row H.length 0 0 n false) l := ⟨by simp [rh], .inr ⟨0, H.length, by rw [hn], Nat.le_refl _, by simp [rh]⟩⟩
 obtain ⟨R, hf, hR⟩ := BP gF (fun x => .int _ _) 0
 refine ⟨R, ?_, hR⟩
 have hmul : n * w ≤ 4096 * 62 := Nat.mul_le_mul hb hw
 have hr3 : vw (H ++ [HO.row 3 1 0 (List.replicate n (.int .i64 0))]) 1 (.row H.length 0 0 n false) = some (List.replicate n (.int .i64 0)) := by simp [vw, List.take_of_length_le]
 obtain ⟨P, hP⟩ : ∃ P, P = n * w := ⟨_, rfl⟩
 rw [← hP] at hpl hla iv
 have z1 : IntKind.i64.wrap ((n : Int) * (w : Int)) = (P : Int) := by
  rw [← Int.natCast_mul, ← hP, wrap64 _ (by omega) (by omega)]
 obtain ⟨r, hr⟩ : ∃ r, r = P % 8 := ⟨_, rfl⟩
 have z2 : ((P : Int)).tmod 8 = (r : Int) := by rw [Int.tmod_eq_emod_of_nonneg (by omega)]; omega
 obtain ⟨m, hm⟩ : ∃ m, m = (P + 7) / 8 := ⟨_, rfl⟩
 rw [← hm] at hpl hla iv
 rw [← hr] at hla
 have d1 : ¬ (4096 : Int) < (n : Int) := by omega
 have d2 : ¬ 4096 < n := by omega
 have d3 : ¬ (n : Int) < 0 := by omega
 have m0 : (0 : Int) ≤ (n : Int) := by omega
 have m1 : (n : Int) * 8 ≤ 140737488355328 := by omega
 have hW : Wc 1 (.int .i64 0) := by simp [Wc, DV.cells, DV.one]
 generalize pack l w = pk at *
 clear hl hB gF hR hr0
 by_cases h0 : r = 0
 ·have d4 : ¬ (0 : Int) < (r : Int) := by omega
  have d5 : ¬ 0 < r := by omega
  rw [Zv (X := X) _ oL _ rfl rfl]; unfold oL
  (repeat (first | rw [ZN] | rw [Zw (by simp [ZK, ZF, ZE, ZG, Zs, Zi, Zp, Zl, Zn, Ze, Zf, Zm, Zt, Zu, ZH, ↓Zk, Zr, Zj, ZD, Zz, Zy, ZW, ZA, Yo, put, lk, Od.v, Za, Zg, Zo, aj, Yd, Ye, Yc, au, eqk, DV.isU, DV.cells, ae, ZP, Ya, ZO, Zq, splice, DV.one, ZQ, af, ZX, eqs, jc, iv, hv, hpl, z1, z2, d1, d2, d3, d4, d5, m0, m1, hW, hr3]; exact ⟨rfl, rfl⟩)] | rw [Yj (by simp [lk, Za, Od.v, jc, iv, hv, hpl, z1, z2, d1, d2, d3, d4, d5, m0, m1, hW, hr3]; exact rfl)] | rw [Zz] | rw [Zy] | rw [Yb] | rw [Ys] | rw [Yf] | rw [Yr] | rw [Yh] | rw [Yg] | rw [ZY] | rw [ZT] | rw [ZU] | rw [ZM (by decide)] | rw [ZR] | rw [ZJ] | rw [ZL] | rw [ZI (by decide)] | rw [Yv] | rw [Yt (by simp [ZK, ZF, ZE, ZG, Zs, Zi, Zp, Zl, Zn, Ze, Zf, Zm, Zt, Zu, ZH, ↓Zk, Zr, Zj, ZD, Zz, Zy, ZW, ZA, Yo, put, lk, Od.v, Za, Zg, Zo, aj, Yd, Ye, Yc, au, eqk, DV.isU, DV.cells, ae, ZP, Ya, ZO, Zq, splice, DV.one, ZQ, af, ZX, eqs, jc, iv, hv, hpl, z1, z2, d1, d2, d3, d4, d5, m0, m1, hW, hr3]; exact ⟨rfl, rfl⟩)] | rw [Yu (by simp [lk, Za, Od.v, jc, iv, hv, hpl, z1, z2, d1, d2, d3, d4, d5, m0, m1, hW, hr3]; exact rfl)] | rw [Yq]))
  (try simp only [Za, List.map_cons, List.map_nil, lk, reduceIte, Nat.reduceEqDiff, Nat.zero_ne_one, Nat.one_ne_zero])
  rw [hc]
  (repeat (first | rw [ZN] | rw [Zw (by simp [ZK, ZF, ZE, ZG, Zs, Zi, Zp, Zl, Zn, Ze, Zf, Zm, Zt, Zu, ZH, ↓Zk, Zr, Zj, ZD, Zz, Zy, ZW, ZA, Yo, put, lk, Od.v, Za, Zg, Zo, aj, Yd, Ye, Yc, au, eqk, DV.isU, DV.cells, ae, ZP, Ya, ZO, Zq, splice, DV.one, ZQ, af, ZX, eqs]; exact ⟨rfl, rfl⟩)] | rw [Yj (by simp [lk, Za, Od.v]; exact rfl)] | rw [Zz] | rw [Zy] | rw [Yb] | rw [Ys] | rw [Yf] | rw [Yr] | rw [Yh] | rw [Yg] | rw [ZY] | rw [ZT] | rw [ZU] | rw [ZM (by decide)] | rw [ZR] | rw [ZJ] | rw [ZL] | rw [ZI (by decide)] | rw [Yv] | rw [Yt (by simp [ZK, ZF, ZE, ZG, Zs, Zi, Zp, Zl, Zn, Ze, Zf, Zm, Zt, Zu, ZH, ↓Zk, Zr, Zj, ZD, Zz, Zy, ZW, ZA, Yo, put, lk, Od.v, Za, Zg, Zo, aj, Yd, Ye, Yc, au, eqk, DV.isU, DV.cells, ae, ZP, Ya, ZO, Zq, splice, DV.one, ZQ, af, ZX, eqs]; exact ⟨rfl, rfl⟩)] | rw [Yu (by simp [lk, Za, Od.v]; exact rfl)] | rw [Yq]))
  simp only [Zh, ZV, lk, Za, List.map_cons, List.map_nil, reduceIte, Option.map_some, Nat.reduceEqDiff, hf]
 ·have d4 : (0 : Int) < (r : Int) := by omega
  have d5 : 0 < r := by omega
  have hlt := hla d5
  obtain ⟨q, hq⟩ : ∃ q, q = m - 1 := ⟨_, rfl⟩
  have tZ : q < pk.length := by omega
  have wR : q < m := by omega
  have BD : (pk.map bD)[q]? = some (bD pk[q]) := by simp [tZ]
  rw [← hq, List.getD_eq_getElem?_getD, List.getElem?_eq_getElem tZ] at hlt
  have hlt : pk[q] < 2 ^ r := hlt
  obtain ⟨x, hx⟩ : ∃ x, x = pk[q] := ⟨_, rfl⟩
  have hx' := hx.symm
  rw [← hx] at hlt
  have z3 : IntKind.i64.wrap ((m : Int) - 1) = (q : Int) := wr
  have z4 : ((x : Int)).fdiv (2 ^ min r IntKind.u8.bits) = 0 := by
   rw [show min r IntKind.u8.bits = r from Nat.min_eq_left (by simp [IntKind.bits]; omega), show (2 : Int) ^ r = ((2 ^ r : Nat) : Int) by simp, Int.fdiv_eq_ediv_of_nonneg _ (Int.natCast_nonneg _), ← Int.natCast_ediv, Nat.div_eq_of_lt hlt]
   rfl
  have d6 : ¬ (r : Int) < 0 := by omega
  rw [Zv (X := X) _ oL _ rfl rfl]; unfold oL
  (repeat (first | rw [ZN] | rw [Zw (by simp [ZK, ZF, ZE, ZG, Zs, Zi, Zp, Zl, Zn, Ze, Zf, Zm, Zt, Zu, ZH, ↓Zk, Zr, Zj, ZD, Zz, Zy, ZW, ZA, Yo, put, lk, Od.v, Za, Zg, Zo, aj, Yd, Ye, Yc, au, eqk, DV.isU, DV.cells, ae, ZP, Ya, ZO, Zq, splice, DV.one, ZQ, af, ZX, eqs, jc, iv, hv, hpl, z1, z2, z3, z4, d1, d2, d3, d4, d5, d6, m0, m1, hW, hr3, tZ, wR, hx', BD, aG]; exact ⟨rfl, rfl⟩)] | rw [Yj (by simp [lk, Za, Od.v, jc, iv, hv, hpl, z1, z2, z3, z4, d1, d2, d3, d4, d5, d6, m0, m1, hW, hr3, tZ, wR, hx', BD, aG]; exact rfl)] | rw [Zz] | rw [Zy] | rw [Yb] | rw [Ys] | rw [Yf] | rw [Yr] | rw [Yh] | rw [Yg] | rw [ZY] | rw [ZT] | rw [ZU] | rw [ZM (by decide)] | rw [ZR] | rw [ZJ] | rw [ZL] | rw [ZI (by decide)] | rw [Yv] | rw [Yt (by simp [ZK, ZF, ZE, ZG, Zs, Zi, Zp, Zl, Zn, Ze, Zf, Zm, Zt, Zu, ZH, ↓Zk, Zr, Zj, ZD, Zz, Zy, ZW, ZA, Yo, put, lk, Od.v, Za, Zg, Zo, aj, Yd, Ye, Yc, au, eqk, DV.isU, DV.cells, ae, ZP, Ya, ZO, Zq, splice, DV.one, ZQ, af, ZX, eqs, jc, iv, hv, hpl, z1, z2, z3, z4, d1, d2, d3, d4, d5, d6, m0, m1, hW, hr3, tZ, wR, hx', BD, aG]; exact ⟨rfl, rfl⟩)] | rw [Yu (by simp [lk, Za, Od.v, jc, iv, hv, hpl, z1, z2, z3, z4, d1, d2, d3, d4, d5, d6, m0, m1, hW, hr3, tZ, wR, hx', BD, aG]; exact rfl)] | rw [Yq]))
  (try simp only [Za, List.map_cons, List.map_nil, lk, reduceIte, Nat.reduceEqDiff, Nat.zero_ne_one, Nat.one_ne_zero])
  rw [hc]
  (repeat (first | rw [ZN] | rw [Zw (by simp [ZK, ZF, ZE, ZG, Zs, Zi, Zp, Zl, Zn, Ze, Zf, Zm, Zt, Zu, ZH, ↓Zk, Zr, Zj, ZD, Zz, Zy, ZW, ZA, Yo, put, lk, Od.v, Za, Zg, Zo, aj, Yd, Ye, Yc, au, eqk, DV.isU, DV.cells, ae, ZP, Ya, ZO, Zq, splice, DV.one, ZQ, af, ZX, eqs]; exact ⟨rfl, rfl⟩)] | rw [Yj (by simp [lk, Za, Od.v]; exact rfl)] | rw [Zz] | rw [Zy] | rw [Yb] | rw [Ys] | rw [Yf] | rw [Yr] | rw [Yh] | rw [Yg] | rw [ZY] | rw [ZT] | rw [ZU] | rw [ZM (by decide)] | rw [ZR] | rw [ZJ] | rw [ZL] | rw [ZI (by decide)] | rw [Yv] | rw [Yt (by simp [ZK, ZF, ZE, ZG, Zs, Zi, Zp, Zl, Zn, Ze, Zf, Zm, Zt, Zu, ZH, ↓Zk, Zr, Zj, ZD, Zz, Zy, ZW, ZA, Yo, put, lk, Od.v, Za, Zg, Zo, aj, Yd, Ye, Yc, au, eqk, DV.isU, DV.cells, ae, ZP, Ya, ZO, Zq, splice, DV.one, ZQ, af, ZX, eqs]; exact ⟨rfl, rfl⟩)] | rw [Yu (by simp [lk, Za, Od.v]; exact rfl)] | rw [Yq]))
  simp only [Zh, ZV, lk, Za, List.map_cons, List.map_nil, reduceIte, Option.map_some, Nat.reduceEqDiff, hf]
end Go.Proofs.YtmbgfbomgbdjeaaGreatDoor
namespace Go.Proofs.YtmbgfbomgbdjeaaGreatDoor
attribute [local go_sem] ZK ZF ZE ZG Zs Zi Zp Zl Zn Ze Zf Zm Zt Zu ZH Zr Zj ZD Zz Zy ZW ZA Yo put lk Od.v Za Zg Zo aj Yd Ye Yc au eqk DV.isU DV.cells ae ZP Ya ZO Zq splice ZQ af ZX eqs bh bV bQ aV bS bg aU aZ bR aW bU aY bf aX bW bY bP YA YB
attribute [local go_sem ↓] Zk
set_option linter.unusedVariables false
set_option linter.unusedSimpArgs false
set_option maxRecDepth 10000
def addN (sn : List Nat) (p : Nat) : List Nat := if p ∈ sn then sn else sn ++ [p]
def iR (sn : List Nat) : List (DV × DV) := sn.map fun p => (iD p, DV.bool true)
theorem HA (p q : Nat) : gB false [1] (iD p) (iD q) = some (decide (p = q)) := by
 simp [gB, eqs]
 by_cases h : p = q
 ·subst h; simp
 ·have : ¬ (p : Int) = (q : Int) := by omega
  simp [h, this]
theorem CB (p : Nat) : ∀ sn : List Nat, iu false [1] (iD p) (.bool true) (iR sn) = some (iR (addN sn p))
 | [] => rfl
 | q :: sn => by
  have ih := CB p sn
  unfold iR at ih ⊢
  simp only [List.map_cons, iu, HA]
  by_cases h : p = q
  ·subst h
   simp [addN]
  ·simp only [h, decide_false]
   rw [ih]
   unfold addN
   by_cases h2 : p ∈ sn
   ·simp [h, h2]
   ·simp [h, h2]
def Yn (il : List Nat) : List Nat := il.foldl addN []
theorem uQ (il : List Nat) (p : Nat) : Yn (il ++ [p]) = addN (Yn il) p := by simp [Yn, List.foldl_append]
theorem Jc (sn : List Nat) (p x : Nat) : x ∈ addN sn p ↔ x ∈ sn ∨ x = p := by
 unfold addN
 split
 ·rename_i h
  constructor
  ·exact .inl
  ·rintro (h1 | rfl)
   ·exact h1
   ·exact h
 ·simp
theorem Ki (il : List Nat) : ∀ sn : List Nat, sn.Nodup → (il.foldl addN sn).Nodup ∧ ∀ x, x ∈ il.foldl addN sn ↔ x ∈ sn ∨ x ∈ il := by
 induction il with
 | nil => intro sn h; exact ⟨h, fun x => by simp⟩
 | cons p il ih =>
  intro sn h
  have h2 : (addN sn p).Nodup := by
   unfold addN
   split
   ·exact h
   ·rename_i hp
    rw [List.nodup_append]
    refine ⟨h, by simp, fun a ha b hb => ?_⟩
    simp at hb; subst hb
    rintro rfl
    exact hp ha
  obtain ⟨q1, q2⟩ := ih (addN sn p) h2
  refine ⟨q1, fun x => ?_⟩
  rw [List.foldl_cons, q2, Jc, List.mem_cons, or_assoc]
theorem DO {il : List Nat} {m : Nat} (h : ∀ p, p ∈ il ↔ p < m) : (Yn il).length = m := by
 obtain ⟨h1, h2⟩ := Ki il [] List.nodup_nil
 have hp : (Yn il).Perm (List.range m) := (List.perm_ext_iff_of_nodup h1 List.nodup_range).2 (fun a => by
  rw [h2, List.mem_range, ← h]; simp)
 have := hp.length_eq
 simpa using this
def cr (H : Zb) (n : Int) (D B : DV) (sn : List Nat) : Zb := H ++ [.box 70 [.int .i64 n, D, B], .map 0 0 (iR sn)]
theorem Bt {H : Zb} {n : Nat} {D B R : DV} {ys : List V} {il : List Nat} (hD : ∀ g, vw g 4 D = some (ys.map V.d)) (hR : ∀ g, vw g 1 R = some (il.map iD)) (hn : il.length = n) (hb : n ≤ 4096) (hl : ∀ p ∈ il, p < ys.length) (oh : ys.length ≤ 1000) :
 ∀ (k i : Nat), n - i ≤ k → i ≤ n → ∃ y ex, C X (.loop fo) [(1, .ref H.length 0), (4, R), (5, .int .i64 0), (6, .map (H.length + 1)), (36, R), (37, .int .i64 n), (38, .int .i64 i)] (cr H n D B (Yn (il.take i))) = some (.exit 0, (1, .ref H.length 0) :: (4, R) :: (5, .int .i64 0) :: (6, .map (H.length + 1)) :: (36, R) :: (37, .int .i64 n) :: (38, y) :: ex, cr H n D B (Yn il)) := by
 intro k
 induction k with
 | zero =>
  intro i hk hi
  obtain rfl : i = n := by omega
  rw [← hn, List.take_length, hn]
  refine ⟨.int .i64 i, [(39, .bool false)], ?_⟩
  generalize cr H i D B (Yn il) = P
  rw [Zc]
  unfold fo
  refine rn trivial ?_
  rw [Zx]
  simp [Za, lk]
 | succ k ih =>
  intro i hk hi
  by_cases c : i < n
  ·obtain ⟨I, hI⟩ : ∃ I, I = i + 1 := ⟨_, rfl⟩
   have z1 : IntKind.i64.wrap ((i : Int) + 1) = (I : Int) := wr
   have c' : i < il.length := by omega
   have hp := hl _ (List.getElem_mem c')
   have EU : Yn (il.take I) = addN (Yn (il.take i)) il[i] := by rw [hI, ← List.take_append_getElem c', uQ]
   have hm := CB il[i] (Yn (il.take i))
   rw [← EU] at hm
   obtain ⟨p, gU⟩ : ∃ p, p = il[i] := ⟨_, rfl⟩
   rw [← gU] at hp hm
   have ow := gU.symm
   obtain ⟨y, ex, hc⟩ := ih I (by omega) (by omega)
   refine ⟨y, ex, ?_⟩
   have f1 : (cr H n D B (Yn (il.take i)))[H.length]? = some (.box 70 [.int .i64 n, D, B]) := by simp [cr]
   have f2 : (cr H n D B (Yn (il.take i)))[H.length + 1]? = some (.map 0 0 (iR (Yn (il.take i)))) := by simp [cr, ae]
   have f3 : (cr H n D B (Yn (il.take i))).set (H.length + 1) (.map 0 0 (iR (Yn (il.take I)))) = cr H n D B (Yn (il.take I)) := by simp [cr, Ya]
   have d1 : ¬ (ys.length : Int) ≤ (p : Int) := by omega
   have d2 : ¬ ys.length ≤ p := by omega
   have mL : gB false [1] (.int .i64 (p : Int)) (.int .i64 (p : Int)) = some true := by have := HA p p; simpa using this
   have hm : iu false [1] (.int .i64 (p : Int)) (.bool true) (iR (Yn (il.take i))) = some (iR (Yn (il.take I))) := hm
   have hs : C X fo [(1, .ref H.length 0), (4, R), (5, .int .i64 0), (6, .map (H.length + 1)), (36, R), (37, .int .i64 n), (38, .int .i64 i)] (cr H n D B (Yn (il.take i))) = some (.norm, [(1, .ref H.length 0), (4, R), (5, .int .i64 0), (6, .map (H.length + 1)), (36, R), (37, .int .i64 n), (38, .int .i64 I)], cr H n D B (Yn (il.take I))) := by
    clear ih hc hl EU
    generalize cr H n D B (Yn (il.take I)) = P2 at *
    generalize cr H n D B (Yn (il.take i)) = P1 at *
    unfold fo
    refine Yx (ja @c @c' @z1 @hR @hD @ow @f1 @f2 @f3 @d1 @d2 @mL @hm) ?_
    simp [Za, lk]
   rw [Zc, hs, ZB]
   exact hc
  ·exact ih i (by omega) hi
set_option maxHeartbeats 1000000 in
theorem MF {H : Zb} {n : Nat} {D B : DV} {ys : List V} {il : List Nat} (hD : e8 D ys) (hU : Up ys) (hmay : ∀ x ∈ ys, aF x = true) (oh : ys.length ≤ 256) (hB : bK B (pack il (wC ys.length))) (hn : il.length = n) (hb : n ≤ 4096) (hl : ∀ p, p ∈ il ↔ p < ys.length) :
 ∃ R, E X 104 [e7 n D B] H = some (.tup [R, .bool true], H) ∧ ((R = .nils ∧ il = []) ∨ R = .list 1 (il.map iD) false) := by
 have tV : wC ys.length ≤ 62 := by
  have h1 := gZ (ys.length - 1) 255 (by omega)
  have h2 : wN 255 = 8 := by decide
  unfold wC; omega
 have qK := fun g => Eb (h := g) (A := D) (fun l => hD.vw _) (by omega)
 rw [yP ys none hU hmay] at qK
 have ql := fun g => yJ ys.length oh g
 obtain ⟨R, xe, hR⟩ := Ea (H := H ++ [.box 70 [.int .i64 n, D, B]]) hB tV hn hb (fun p hp => gZ _ _ (by have := (hl p).1 hp; omega))
 have ku : ∀ g, vw g 1 R = some (il.map iD) := fun g => by rcases hR with ⟨rfl, rfl⟩ | rfl <;> rfl
 refine ⟨R, ?_, hR⟩
 obtain ⟨y, ex, hc⟩ := Bt (H := H) (n := n) (D := D) (B := B) (R := R) hD.vw ku hn hb (fun p hp => (hl p).1 hp) (by omega) n 0 (by omega) (by omega)
 have hi0 : cr H n D B (Yn (il.take 0)) = H ++ [.box 70 [.int .i64 n, D, B], .map 0 0 []] := rfl
 rw [hi0, show ((0 : Nat) : Int) = 0 from rfl] at hc
 have f1 : (cr H n D B (Yn il))[H.length]? = some (.box 70 [.int .i64 n, D, B]) := by simp [cr]
 have f2 : (cr H n D B (Yn il))[H.length + 1]? = some (.map 0 0 (iR (Yn il))) := by simp [cr, ae]
 have f3 : (iR (Yn il)).length = ys.length := by rw [iR, List.length_map, DO hl]
 have f4 : (cr H n D B (Yn il)).take H.length = H := by simp [cr]
 have fB := hD.vw
 have d1 : ¬ (4096 : Int) < (n : Int) := by omega
 have d2 : ¬ 4096 < n := by omega
 have d3 : ¬ (n : Int) < 0 := by omega
 have aA : fin H (cr H n D B (Yn il)) [R, .bool true] = (.tup [R, .bool true], H) := by
  simp only [fin]
  rw [if_pos f4]
  rcases hR with ⟨rfl, _⟩ | rfl <;> rfl
 generalize cr H n D B (Yn il) = P at *
 generalize iR (Yn il) = es at *
 generalize wC ys.length = w at *
 rw [Zv (X := X) _ jN _ rfl rfl]; unfold jN
 refine JK (gJ @qK @fB @ql @xe @d1 @d2 @d3 @ku @hn) ?_
 refine Yy ?_
 rw [hc]
 refine rn (df @f1 @f2 @f3 @fB) ?_
 simp only [Zh, ZV, lk, Za, List.map_cons, List.map_nil, reduceIte, Option.map_some, Nat.reduceEqDiff, aA]
structure ColOk (n : Nat) (D B : DV) (ys : List V) (il : List Nat) : Prop where
 dict : e8 D ys
 up : Up ys
 may : ∀ x ∈ ys, aF x = true
 yb : ys.length ≤ 256
 bytes : bK B (pack il (wC ys.length))
 len : il.length = n
 nb : n ≤ 4096
 mem : ∀ p, p ∈ il ↔ p < ys.length
theorem Bg {n : Nat} {D B : DV} {ys : List V} {il : List Nat} (hC : ColOk n D B ys il) (H : Zb) : ∃ R, E X 104 [e7 n D B] H = some (.tup [R, .bool true], H) ∧ ∀ g, vw g 1 R = some (il.map iD) := by
 obtain ⟨R, h1, h2⟩ := MF (H := H) hC.dict hC.up hC.may hC.yb hC.bytes hC.len hC.nb hC.mem
 exact ⟨R, h1, fun g => by rcases h2 with ⟨rfl, rfl⟩ | rfl <;> rfl⟩
theorem JA {n : Nat} {D B : DV} {ys : List V} {il : List Nat} (hC : ColOk n D B ys il) (H : Zb) : E X 69 [e7 n D B] H = some (.bool true, H) := by
 obtain ⟨R, O8, _⟩ := Bg hC (H ++ [.box 70 [.int .i64 n, D, B]])
 rw [Zv (X := X) _ F8 _ rfl rfl]; unfold F8; exact rg @O8
theorem Jk : ∀ (w n : Nat), n < 2 ^ w → wN n ≤ w
 | 0, n, h => by
  have : n = 0 := by simpa using h
  subst this
  exact Nat.le_refl _
 | w + 1, n, h => by
  rcases Nat.eq_zero_or_pos n with rfl | hp
  ·rw [wB]; omega
  ·rw [pC n hp]
   have := Jk w (n / 2) (by rw [Nat.pow_succ] at h; omega)
   omega
def bL (bs : List Nat) (w n : Nat) : List Nat := (List.range n).map fun i => gN bs w i w
theorem gQ (bs : List Nat) (w n : Nat) : (bL bs w n).length = n := by simp [bL]
theorem Lt {bs : List Nat} {w n : Nat} : ∀ p ∈ bL bs w n, wN p ≤ w := by
 intro p hp
 unfold bL at hp
 obtain ⟨i, _, rfl⟩ := List.mem_map.1 hp
 exact Jk _ _ (wL bs w i w)
def iw (bs : List Nat) (w n : Nat) : Prop := bs.length = (n * w + 7) / 8 ∧ (0 < n * w % 8 → bs.getD (bs.length - 1) 0 / 2 ^ (n * w % 8) = 0)
theorem xJ {bs : List Nat} {w n : Nat} (bb : BB bs) (h : iw bs w n) : pack (bL bs w n) w = bs := by
 apply FX
 ·rw [gM, gQ, h.1]
 ·exact pJ _ _
 ·exact bb
 intro q
 rw [uo, gQ]
 by_cases c : q < n * w
 ·have hw : 0 < w := by
   rcases Nat.eq_zero_or_pos w with rfl | h
   ·simp at c
   ·exact h
  have hi : q / w < n := by rw [Nat.div_lt_iff_lt_mul hw]; exact c
  have e : (bL bs w n).getD (q / w) 0 = gN bs w (q / w) w := by
   unfold bL
   rw [List.getD_eq_getElem?_getD]
   simp [hi]
  rw [e, qC]
  have h1 : q % w < w := Nat.mod_lt _ hw
  have e2 : q / w * w + q % w = q := by rw [Nat.mul_comm]; exact Nat.div_add_mod q w
  simp [c, h1, e2]
 ·have : fK bs q = false := by
   unfold fK
   obtain ⟨ha, hb⟩ := h
   generalize n * w = P at *
   by_cases c2 : q / 8 < bs.length
   ·have hr : 0 < P % 8 := by omega
    have h2 := hb hr
    have hq : q / 8 = bs.length - 1 := by omega
    rw [hq]
    have hlt : bs.getD (bs.length - 1) 0 < 2 ^ (P % 8) := by
     rcases Nat.div_eq_zero_iff.1 h2 with h3 | h3
     ·have := Nat.two_pow_pos (P % 8); omega
     ·exact h3
    exact Nat.testBit_lt_two_pow (Nat.lt_of_lt_of_le hlt (Nat.pow_le_pow_right (by omega) (by omega)))
   ·rw [List.getD_eq_getElem?_getD, List.getElem?_eq_none (by omega)]; simp
  rw [this]; simp [c]
theorem KP {H : Zb} {L : DV} {bs : List Nat} {w n : Nat} (hB : bK L bs) (bb : BB bs) (hw : w ≤ 62) (hb : n ≤ 4096) (h : ¬ iw bs w n) :
 ∃ e : Int, E X 129 [L, .int .i64 n, .int .i64 w] H = some (.tup [.nils, .int .i64 e], H) ∧ (e == 0) = false := by
 have jc := yI w hw H
 have iv := Ci n w (by omega) hw H
 have hv := hB.vw H
 have hmul : n * w ≤ 4096 * 62 := Nat.mul_le_mul hb hw
 unfold iw at h
 obtain ⟨P, hP⟩ : ∃ P, P = n * w := ⟨_, rfl⟩
 have z1 : IntKind.i64.wrap ((n : Int) * (w : Int)) = (P : Int) := by
  rw [← Int.natCast_mul, ← hP, wrap64 _ (by omega) (by omega)]
 rw [← hP] at h iv hmul
 obtain ⟨r, hr⟩ : ∃ r, r = P % 8 := ⟨_, rfl⟩
 have z2 : ((P : Int)).tmod 8 = (r : Int) := by rw [Int.tmod_eq_emod_of_nonneg (by omega)]; omega
 obtain ⟨m, hm⟩ : ∃ m, m = (P + 7) / 8 := ⟨_, rfl⟩
 rw [← hm] at h iv
 rw [← hr] at h
 have d1 : ¬ (4096 : Int) < (n : Int) := by omega
 have d2 : ¬ 4096 < n := by omega
 have d3 : ¬ (n : Int) < 0 := by omega
 clear hB
 by_cases c1 : bs.length < m
 ·refine ⟨6, ?_, rfl⟩
  have bM : (bs.length : Int) < (m : Int) := by omega
  rw [Zv (X := X) _ oL _ rfl rfl]; unfold oL; exact rg (ei @jc @iv @hv @z1 @z2 @d1 @d2 @d3 @c1 @bM)
 have bM : ¬ (bs.length : Int) < (m : Int) := by omega
 refine ⟨7, ?_, rfl⟩
 by_cases c2 : m < bs.length
 ·have dA : (m : Int) < (bs.length : Int) := by omega
  rw [Zv (X := X) _ oL _ rfl rfl]; unfold oL; exact rg (dR @jc @iv @hv @z1 @z2 @d1 @d2 @d3 @c1 @bM @c2 @dA)
 have dA : ¬ (m : Int) < (bs.length : Int) := by omega
 have hlen : bs.length = m := by omega
 have h5 : 0 < r ∧ bs.getD (bs.length - 1) 0 / 2 ^ r ≠ 0 := by
  refine ⟨?_, ?_⟩
  ·apply Nat.pos_of_ne_zero
   intro h0
   exact h ⟨hlen, fun h1 => by omega⟩
  ·intro h0
   exact h ⟨hlen, fun _ => h0⟩
 obtain ⟨d5, hne⟩ := h5
 have d4 : (0 : Int) < (r : Int) := by omega
 have d6 : ¬ (r : Int) < 0 := by omega
 obtain ⟨q, hq⟩ : ∃ q, q = m - 1 := ⟨_, rfl⟩
 have tZ : q < bs.length := by omega
 have wR : q < m := by omega
 have BD : (bs.map bD)[q]? = some (bD bs[q]) := by simp [tZ]
 rw [hlen, ← hq, List.getD_eq_getElem?_getD, List.getElem?_eq_getElem tZ] at hne
 have hne : bs[q] / 2 ^ r ≠ 0 := hne
 obtain ⟨x, hx⟩ : ∃ x, x = bs[q] := ⟨_, rfl⟩
 have hx' := hx.symm
 rw [← hx] at hne
 obtain ⟨y, hy⟩ : ∃ y, y = x / 2 ^ r := ⟨_, rfl⟩
 rw [← hy] at hne
 have z3 : IntKind.i64.wrap ((m : Int) - 1) = (q : Int) := wr
 have z4 : ((x : Int)).fdiv (2 ^ min r IntKind.u8.bits) = (y : Int) := by
  rw [show min r IntKind.u8.bits = r from Nat.min_eq_left (by simp [IntKind.bits]; omega), show (2 : Int) ^ r = ((2 ^ r : Nat) : Int) by simp, Int.fdiv_eq_ediv_of_nonneg _ (Int.natCast_nonneg _), ← Int.natCast_ediv, hy]
 have yM : ((x : Int)).fdiv (2 ^ min r 8) = (y : Int) := z4
 have y0 : 0 < y := by omega
 have y1 : (0 : Int) < (y : Int) := by omega
 clear h bb hx hy
 rw [Zv (X := X) _ oL _ rfl rfl]; unfold oL; exact d8 (T4 @jc @iv @hv @z1 @z2 @z3 @z4 @yM @d1 @d2 @d3 @d4 @d5 @d6 @c1 @bM @c2 @dA @hlen @tZ @wR @hx' @BD @y0 @y1)
def okC (n : Int) (ys : List V) (bs : List Nat) : Prop := 0 ≤ n ∧ n ≤ 4096 ∧ bG none ys = true ∧ iw bs (wC ys.length) n.toNat ∧ (∀ p ∈ bL bs (wC ys.length) n.toNat, p < ys.length) ∧ ∀ k, k < ys.length → k ∈ bL bs (wC ys.length) n.toNat
theorem okC.col {n : Int} {ys : List V} {bs : List Nat} {D B : DV} (h : okC n ys bs) (hD : e8 D ys) (oh : ys.length ≤ 256) (hB : bK B bs) (bb : BB bs) : n = (n.toNat : Int) ∧ ColOk n.toNat D B ys (bL bs (wC ys.length) n.toNat) := by
 obtain ⟨h1, h2, h3, h4, h5, h6⟩ := h
 obtain ⟨u1, u2⟩ := Eg _ h3
 refine ⟨by omega, hD, u1, u2, oh, by rw [xJ bb h4]; exact hB, gQ _ _ _, by omega, fun p => ⟨h5 p, h6 p⟩⟩
theorem Hu {H : Zb} {n : Nat} {D B R : DV} {ys : List V} {il : List Nat} (hD : ∀ g, vw g 4 D = some (ys.map V.d)) (hR : ∀ g, vw g 1 R = some (il.map iD)) (hn : il.length = n) (hb : n ≤ 4096) (oh : ys.length ≤ 1000) :
 ∀ (k i : Nat), n - i ≤ k → i ≤ n → (∃ p ∈ il.drop i, ys.length ≤ p) → ∃ h', C X (.loop fo) [(1, .ref H.length 0), (4, R), (5, .int .i64 0), (6, .map (H.length + 1)), (36, R), (37, .int .i64 n), (38, .int .i64 i)] (cr H n D B (Yn (il.take i))) = some (.ret, [(2, .nils), (3, .bool false)], h') ∧ h'.take H.length = H := by
 intro k
 induction k with
 | zero =>
  intro i hk hi hex
  obtain rfl : i = n := by omega
  rw [← hn, List.drop_length] at hex
  obtain ⟨p, hp, _⟩ := hex
  cases hp
 | succ k ih =>
  intro i hk hi hex
  by_cases c : i < n
  ·obtain ⟨I, hI⟩ : ∃ I, I = i + 1 := ⟨_, rfl⟩
   have z1 : IntKind.i64.wrap ((i : Int) + 1) = (I : Int) := wr
   have c' : i < il.length := by omega
   obtain ⟨p, gU⟩ : ∃ p, p = il[i] := ⟨_, rfl⟩
   have ow := gU.symm
   rw [List.drop_eq_getElem_cons c', ← gU, ← hI] at hex
   have f1 : (cr H n D B (Yn (il.take i)))[H.length]? = some (.box 70 [.int .i64 n, D, B]) := by simp [cr]
   have f2 : (cr H n D B (Yn (il.take i)))[H.length + 1]? = some (.map 0 0 (iR (Yn (il.take i)))) := by simp [cr, ae]
   by_cases hlt : p < ys.length
   ·have N9 : ∃ p ∈ il.drop I, ys.length ≤ p := by
     obtain ⟨x, hx, sj⟩ := hex
     rcases List.mem_cons.1 hx with rfl | hx
     ·omega
     ·exact ⟨x, hx, sj⟩
    have EU : Yn (il.take I) = addN (Yn (il.take i)) il[i] := by rw [hI, ← List.take_append_getElem c', uQ]
    have hm := CB il[i] (Yn (il.take i))
    rw [← EU, ← gU] at hm
    obtain ⟨h', hc, ht⟩ := ih I (by omega) (by omega) N9
    refine ⟨h', ?_, ht⟩
    have f3 : (cr H n D B (Yn (il.take i))).set (H.length + 1) (.map 0 0 (iR (Yn (il.take I)))) = cr H n D B (Yn (il.take I)) := by simp [cr, Ya]
    have d1 : ¬ (ys.length : Int) ≤ (p : Int) := by omega
    have d2 : ¬ ys.length ≤ p := by omega
    have mL : gB false [1] (.int .i64 (p : Int)) (.int .i64 (p : Int)) = some true := by have := HA p p; simpa using this
    have hm : iu false [1] (.int .i64 (p : Int)) (.bool true) (iR (Yn (il.take i))) = some (iR (Yn (il.take I))) := hm
    have hs : C X fo [(1, .ref H.length 0), (4, R), (5, .int .i64 0), (6, .map (H.length + 1)), (36, R), (37, .int .i64 n), (38, .int .i64 i)] (cr H n D B (Yn (il.take i))) = some (.norm, [(1, .ref H.length 0), (4, R), (5, .int .i64 0), (6, .map (H.length + 1)), (36, R), (37, .int .i64 n), (38, .int .i64 I)], cr H n D B (Yn (il.take I))) := by
     clear ih hc EU hex N9
     generalize cr H n D B (Yn (il.take I)) = P2 at *
     generalize cr H n D B (Yn (il.take i)) = P1 at *
     unfold fo
     refine Yx (ja @c @c' @z1 @hR @hD @ow @f1 @f2 @f3 @d1 @d2 @mL @hm) ?_
     simp [Za, lk]
    rw [Zc, hs, ZB]
    exact hc
   ·have d1 : (ys.length : Int) ≤ (p : Int) := by omega
    have d2 : ys.length ≤ p := by omega
    refine ⟨cr H n D B (Yn (il.take i)), ?_, by simp [cr]⟩
    have hs : C X fo [(1, .ref H.length 0), (4, R), (5, .int .i64 0), (6, .map (H.length + 1)), (36, R), (37, .int .i64 n), (38, .int .i64 i)] (cr H n D B (Yn (il.take i))) = some (.ret, [(2, .nils), (3, .bool false)], cr H n D B (Yn (il.take i))) := by
     clear ih hex
     generalize cr H n D B (Yn (il.take i)) = P1 at *
     unfold fo
     refine Yx (ei @c @c' @z1 @hR @hD @ow @f1 @f2 @d1 @d2) ?_
     simp [Za, lk]
    rw [Zc, hs, Yw]
  ·exact ih i (by omega) hi hex
theorem Ht (H : Zb) (a b e : DV) : C X (.loop fo) [(1, a), (4, .nils), (5, e), (6, b), (36, .nils), (37, .int .i64 0), (38, .int .i64 0)] H = some (.exit 0, [(1, a), (4, .nils), (5, e), (6, b), (36, .nils), (37, .int .i64 0), (38, .int .i64 0), (39, .bool false)], H) := by
 rw [Zc]
 unfold fo
 refine rn trivial ?_
 rw [Zx]
 simp [Za, lk]
theorem vG {H h : Zb} (ht : h.take H.length = H) : fin H h [.nils, .bool false] = (.tup [.nils, .bool false], H) := by
 simp only [fin]
 rw [if_pos ht]
 rfl
theorem zD : ∀ (m : Nat) (l : List Nat), l.Nodup → (∀ x ∈ l, x < m) → l.length ≤ m
 | 0, l, _, h => by
  cases l with
  | nil => simp
  | cons a l => exact absurd (h a (List.mem_cons_self ..)) (by omega)
 | m + 1, l, hn, h => by
  have h1 := zD m (l.erase m) (hn.erase m) (fun x hx => by
   obtain ⟨q1, q2⟩ := hn.mem_erase_iff.1 hx
   have := h x q2
   omega)
  rw [List.length_erase] at h1
  split at h1 <;> omega
theorem GJ {il : List Nat} {m : Nat} (h1 : ∀ p ∈ il, p < m) (h2 : ¬ ∀ k, k < m → k ∈ il) : (Yn il).length ≠ m := by
 intro he
 apply h2
 intro k hk
 obtain ⟨hnd, hm⟩ := Ki il [] List.nodup_nil
 by_cases c : k ∈ il
 ·exact c
 exfalso
 have hks : k ∉ Yn il := fun h => by
  rcases (hm k).1 h with h | h
  ·cases h
  ·exact c h
 have := zD m (k :: Yn il) (List.nodup_cons.2 ⟨hks, hnd⟩) (fun x hx => by
  rcases List.mem_cons.1 hx with rfl | hx
  ·exact hk
  ·rcases (hm x).1 hx with h | h
   ·cases h
   ·exact h1 x h)
 rw [List.length_cons, he] at this
 omega
set_option maxHeartbeats 2000000 in
theorem Bf {H : Zb} {n : Int} {D B : DV} {ys : List V} {bs : List Nat} (hD : e8 D ys) (oh : ys.length ≤ 256) (hB : bK B bs) (bb : BB bs) (h : ¬ okC n ys bs) :
 ∃ (R : DV) (il : List Nat), E X 104 [e7 n D B] H = some (.tup [R, .bool false], H) ∧ (∀ g, vw g 1 R = some (il.map iD)) ∧ il.length ≤ 4096 ∧ R.one = true := by
 have fB := hD.vw
 have qK := fun g => Eb (h := g) (A := D) (fun l => hD.vw _) (by omega)
 by_cases c1 : n < 0
 ·refine ⟨.nils, [], ?_, fun _ => rfl, by simp, rfl⟩
  rw [Zv (X := X) _ jN _ rfl rfl]; unfold jN; exact rg @c1
 by_cases c2 : 4096 < n
 ·refine ⟨.nils, [], ?_, fun _ => rfl, by simp, rfl⟩
  rw [Zv (X := X) _ jN _ rfl rfl]; unfold jN; exact rg (aD @c1 @c2)
 obtain ⟨m, rfl⟩ : ∃ m : Nat, n = (m : Int) := ⟨n.toNat, by omega⟩
 have d1 : ¬ 4096 < m := by omega
 cases c3 : bG none ys
 ·refine ⟨.nils, [], ?_, fun _ => rfl, by simp, rfl⟩
  rw [c3] at qK
  rw [Zv (X := X) _ jN _ rfl rfl]; unfold jN; exact rg (df @c1 @c2 @d1 @qK)
 rw [c3] at qK
 have tV : wC ys.length ≤ 62 := by
  have h1 := gZ (ys.length - 1) 255 (by omega)
  have h2 : wN 255 = 8 := by decide
  unfold wC; omega
 have ql := fun g => yJ ys.length oh g
 by_cases c4 : iw bs (wC ys.length) m
 case neg =>
  refine ⟨.nils, [], ?_, fun _ => rfl, by simp, rfl⟩
  obtain ⟨e, xe, he⟩ := KP (H := H ++ [.box 70 [.int .i64 m, D, B]]) hB bb tV (by omega) c4
  have hl := Ht (H ++ [.box 70 [.int .i64 m, D, B], .map 0 0 []]) (.ref H.length 0) (.map (H.length + 1)) (.int .i64 e)
  have aA : fin H (H ++ [.box 70 [.int .i64 m, D, B], .map 0 0 []]) [.nils, .bool false] = _ := vG (by simp)
  generalize wC ys.length = w at *
  clear h c4 hB bb
  rw [Zv (X := X) _ jN _ rfl rfl]; unfold jN
  have hv0 : ∀ g, vw g 1 .nils = some [] := fun _ => rfl
  refine JK (ga @qK @fB @ql @xe @c1 @c2 @d1 @hv0) ?_
  refine Yy ?_
  rw [hl]
  refine rn (aD @he @fB) ?_
  simp only [Zh, ZV, lk, Za, List.map_cons, List.map_nil, reduceIte, Option.map_some, Nat.reduceEqDiff, aA]
 have hpk := xJ bb c4
 obtain ⟨il, hil⟩ : ∃ il, il = bL bs (wC ys.length) m := ⟨_, rfl⟩
 have hn : il.length = m := by rw [hil]; exact gQ _ _ _
 have OO : bK B (pack il (wC ys.length)) := by rw [hil, hpk]; exact hB
 have hwn : ∀ p ∈ il, wN p ≤ wC ys.length := by rw [hil]; exact Lt
 obtain ⟨R, xe, hR⟩ := Ea (H := H ++ [.box 70 [.int .i64 m, D, B]]) OO tV hn (by omega) hwn
 have ku : ∀ g, vw g 1 R = some (il.map iD) := fun g => by rcases hR with ⟨rfl, rfl⟩ | rfl <;> rfl
 have Vt : R.one = true := by rcases hR with ⟨rfl, rfl⟩ | rfl <;> rfl
 have hi0 : cr H m D B (Yn (il.take 0)) = H ++ [.box 70 [.int .i64 m, D, B], .map 0 0 []] := rfl
 by_cases c5 : ∀ p ∈ il, p < ys.length
 case neg =>
  refine ⟨.nils, [], ?_, fun _ => rfl, by simp, rfl⟩
  have hex : ∃ p ∈ il.drop 0, ys.length ≤ p := by
   rw [List.drop_zero]
   by_cases q : ∃ p ∈ il, ys.length ≤ p
   ·exact q
   ·exfalso
    apply c5
    intro p hp
    by_cases q2 : p < ys.length
    ·exact q2
    ·exact absurd ⟨p, hp, by omega⟩ q
  obtain ⟨h', hl, ht⟩ := Hu (H := H) (D := D) (B := B) (R := R) fB ku hn (by omega) (by omega) m 0 (by omega) (by omega) hex
  rw [hi0, show ((0 : Nat) : Int) = 0 from rfl] at hl
  have aA := vG ht
  generalize wC ys.length = w at *
  clear h c4 hB bb hex c5 hpk hil OO hwn hi0
  rw [Zv (X := X) _ jN _ rfl rfl]; unfold jN
  refine JK (gJ @qK @fB @ql @xe @c1 @c2 @d1 @ku @hn) ?_
  refine Yy ?_
  rw [hl]
  refine rn trivial ?_
  simp only [Zh, ZV, lk, Za, List.map_cons, List.map_nil, reduceIte, Option.map_some, Nat.reduceEqDiff, aA]
 have c6 : ¬ ∀ k, k < ys.length → k ∈ il := fun h6 => h ⟨by omega, by omega, c3, c4, by rw [Int.toNat_natCast, ← hil]; exact c5, by rw [Int.toNat_natCast, ← hil]; exact h6⟩
 refine ⟨R, il, ?_, ku, by omega, Vt⟩
 obtain ⟨y, ex, hc⟩ := Bt (H := H) (D := D) (B := B) (R := R) fB ku hn (by omega) c5 (by omega) m 0 (by omega) (by omega)
 rw [hi0, show ((0 : Nat) : Int) = 0 from rfl] at hc
 have f1 : (cr H m D B (Yn il))[H.length]? = some (.box 70 [.int .i64 m, D, B]) := by simp [cr]
 have f2 : (cr H m D B (Yn il))[H.length + 1]? = some (.map 0 0 (iR (Yn il))) := by simp [cr, ae]
 have f3 : ((iR (Yn il)).length : Int) ≠ (ys.length : Int) := by
  have := GJ c5 c6
  rw [iR, List.length_map]; omega
 have VM : (((iR (Yn il)).length : Int) == (ys.length : Int)) = false := by simpa using f3
 have T6 : ((iR (Yn il)).length == ys.length) = false := by simp only [beq_eq_false_iff_ne]; omega
 have VK : (iR (Yn il)).length ≠ ys.length := by omega
 have f4 : (cr H m D B (Yn il)).take H.length = H := by simp [cr]
 have aA : fin H (cr H m D B (Yn il)) [R, .bool false] = (.tup [R, .bool false], H) := by
  simp only [fin]
  rw [if_pos f4]
  rcases hR with ⟨rfl, _⟩ | rfl <;> rfl
 generalize cr H m D B (Yn il) = P at *
 generalize iR (Yn il) = es at *
 generalize wC ys.length = w at *
 clear h c4 hB bb c5 c6 hpk hil OO hwn hi0
 rw [Zv (X := X) _ jN _ rfl rfl]; unfold jN
 refine JK (gJ @qK @fB @ql @xe @c1 @c2 @d1 @ku @hn) ?_
 refine Yy ?_
 rw [hc]
 refine rn (fR @f1 @f2 @f3 @VM @T6 @VK @fB) ?_
 simp only [Zh, ZV, lk, Za, List.map_cons, List.map_nil, reduceIte, Option.map_some, Nat.reduceEqDiff, aA]
open Classical in
theorem DU {n : Int} {D B : DV} {ys : List V} {bs : List Nat} (hD : e8 D ys) (oh : ys.length ≤ 256) (hB : bK B bs) (bb : BB bs) (H : Zb) : E X 69 [e7 n D B] H = some (.bool (decide (okC n ys bs)), H) := by
 by_cases h : okC n ys bs
 ·obtain ⟨hn, hC⟩ := h.col hD oh hB bb
  rw [decide_eq_true h, hn]
  exact JA hC H
 ·rw [decide_eq_false h]
  obtain ⟨R, il, O8, _⟩ := Bf (H := H ++ [.box 70 [.int .i64 n, D, B]]) hD oh hB bb h
  rw [Zv (X := X) _ F8 _ rfl rfl]; unfold F8; exact rg @O8
end Go.Proofs.YtmbgfbomgbdjeaaGreatDoor
namespace Go.Proofs.YtmbgfbomgbdjeaaGreatDoor
set_option linter.unusedVariables false
set_option linter.unusedSimpArgs false
set_option maxRecDepth 10000
structure SC where
 ys : List V
 il : List Nat
def v0 : V := ⟨0, 0, ⟨#[]⟩, false⟩
def SC.val (c : SC) (i : Nat) : V := c.ys.getD (c.il.getD i 0) v0
structure SC.Ok (n : Nat) (c : SC) : Prop where
 up : Up c.ys
 may : ∀ x ∈ c.ys, aF x = true
 len : c.il.length = n
 lt : ∀ p ∈ c.il, p < c.ys.length
theorem SC.Ok.get {n : Nat} {c : SC} (h : c.Ok n) {i : Nat} (hi : i < n) : ∃ p : Nat, c.il[i]? = some p ∧ c.il.getD i 0 = p ∧ c.ys[p]? = some (c.val i) ∧ p < c.ys.length := by
 have hil : i < c.il.length := by rw [h.len]; exact hi
 have h1 : c.il[i]? = some c.il[i] := List.getElem?_eq_getElem hil
 have h2 : c.il.getD i 0 = c.il[i] := by rw [List.getD_eq_getElem?_getD, h1]; rfl
 have h3 := h.lt _ (List.getElem_mem hil)
 refine ⟨c.il[i], h1, h2, ?_, h3⟩
 unfold SC.val
 rw [h2, List.getD_eq_getElem?_getD, List.getElem?_eq_getElem h3]
 rfl
def Ct (cs : List SC) (i : Nat) : List V := cs.map fun c => c.val i
def fu (cs : List SC) (n : Nat) : List (List V) := (List.range n).map (Ct cs)
def sZ (c : SC) (n : Nat) : List V := (List.range n).map c.val
end Go.Proofs.YtmbgfbomgbdjeaaGreatDoor
