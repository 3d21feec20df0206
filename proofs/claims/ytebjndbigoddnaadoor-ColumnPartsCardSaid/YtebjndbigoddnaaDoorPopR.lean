/- Ideal runs: how many bits of a word are set; how many numbers a set has. -/
import Derived.Test.YtebjndbigoddnaaDoorPop
import Derived.Test.YtebjndbigoddnaaDoorBitA
namespace Go.Proofs.YtebjndbigoddnaaDoor
set_option linter.unusedVariables false
set_option linter.unusedSimpArgs false
set_option maxRecDepth 10000
theorem shr_n (a k : Nat) (hk : k ≤ 64) : (a : Int).fdiv (2 ^ min k IntKind.u64.bits) = ((a / 2 ^ k : Nat) : Int) := by
  rw [show min k IntKind.u64.bits = k from Nat.min_eq_left (by simpa [IntKind.bits] using hk)]
  rw [show (2 : Int) ^ k = ((2 ^ k : Nat) : Int) by simp, Int.fdiv_eq_ediv_of_nonneg _ (Int.natCast_nonneg _)]
  rfl
theorem wrapu_lt {n : Nat} (h : n < 18446744073709551616) : IntKind.u64.wrap (n : Int) = (n : Int) := by
  rw [wrapu, Nat.mod_eq_of_lt h]
theorem run47 (x : Nat) (hx : x < 18446744073709551616) (h : ZT) : E X 47 [.int .u64 x] h = some (.int .i64 (pops 64 x : Nat), h) := by
  obtain ⟨l1, l2, l3⟩ := steps_lt x hx
  rw [← popM_eq x hx]
  simp only [popM]
  simp only [sts] at l3 ⊢
  obtain ⟨a1, ha1⟩ : ∃ a, a = x / 2 := ⟨_, rfl⟩
  obtain ⟨a2, ha2⟩ : ∃ a, a = a1 &&& 6148914691236517205 := ⟨_, rfl⟩
  obtain ⟨a3, ha3⟩ : ∃ a, a = x &&& 6148914691236517205 := ⟨_, rfl⟩
  have ha4 : stp1 6148914691236517205 x = a2 + a3 := by rw [ha2, ha1, ha3]; rfl
  have ba2 : a2 ≤ 6148914691236517205 := by rw [ha2]; exact Nat.and_le_right
  have ba3 : a3 ≤ 6148914691236517205 := by rw [ha3]; exact Nat.and_le_right
  obtain ⟨a4, ha4'⟩ : ∃ a, a = a2 + a3 := ⟨_, rfl⟩
  rw [ha4, ← ha4'] at l1 l2 l3
  rw [ha4, ← ha4']
  obtain ⟨b1, hb1⟩ : ∃ a, a = a4 / 4 := ⟨_, rfl⟩
  obtain ⟨b2, hb2⟩ : ∃ a, a = b1 &&& 3689348814741910323 := ⟨_, rfl⟩
  obtain ⟨b3, hb3⟩ : ∃ a, a = a4 &&& 3689348814741910323 := ⟨_, rfl⟩
  have hb4 : st2 3689348814741910323 a4 = b2 + b3 := by rw [hb2, hb1, hb3]; rfl
  have bb2 : b2 ≤ 3689348814741910323 := by rw [hb2]; exact Nat.and_le_right
  have bb3 : b3 ≤ 3689348814741910323 := by rw [hb3]; exact Nat.and_le_right
  obtain ⟨b4, hb4'⟩ : ∃ a, a = b2 + b3 := ⟨_, rfl⟩
  rw [hb4, ← hb4'] at l2 l3
  rw [hb4, ← hb4']
  obtain ⟨c1, hc1⟩ : ∃ a, a = b4 / 16 := ⟨_, rfl⟩
  obtain ⟨c2, hc2⟩ : ∃ a, a = c1 + b4 := ⟨_, rfl⟩
  obtain ⟨c3, hc3⟩ : ∃ a, a = c2 &&& 1085102592571150095 := ⟨_, rfl⟩
  have hc4 : st3 1085102592571150095 b4 = c3 := by rw [hc3, hc2, hc1]; rfl
  rw [hc4] at l3
  rw [hc4]
  obtain ⟨d1, hd1⟩ : ∃ a, a = c3 / 256 := ⟨_, rfl⟩
  obtain ⟨d2, hd2⟩ : ∃ a, a = c3 + d1 := ⟨_, rfl⟩
  rw [← hd1, ← hd2]
  obtain ⟨e1, he1⟩ : ∃ a, a = d2 / 65536 := ⟨_, rfl⟩
  obtain ⟨e2, he2⟩ : ∃ a, a = d2 + e1 := ⟨_, rfl⟩
  rw [← he1, ← he2]
  obtain ⟨f1, hf1⟩ : ∃ a, a = e2 / 4294967296 := ⟨_, rfl⟩
  obtain ⟨f2, hf2⟩ : ∃ a, a = e2 + f1 := ⟨_, rfl⟩
  rw [← hf1, ← hf2]
  obtain ⟨g, hg⟩ : ∃ a, a = f2 % 128 := ⟨_, rfl⟩
  rw [← hg]
  have s1 : (x : Int).fdiv (2 ^ min 1 IntKind.u64.bits) = (a1 : Int) := by rw [shr_n x 1 (by omega), ha1]
  have n1 := and_n (a := a1) (b := 6148914691236517205) (by omega) (by omega)
  have n2 := and_n (a := x) (b := 6148914691236517205) hx (by omega)
  rw [← ha2] at n1
  rw [← ha3] at n2
  have p1 : IntKind.u64.wrap ((a2 : Int) + (a3 : Int)) = (a4 : Int) := by rw [ha4', ← Int.natCast_add, wrapu_lt (by omega)]
  have s2 : (a4 : Int).fdiv (2 ^ min 2 IntKind.u64.bits) = (b1 : Int) := by rw [shr_n a4 2 (by omega), hb1]
  have n3 := and_n (a := b1) (b := 3689348814741910323) (by omega) (by omega)
  have n4 := and_n (a := a4) (b := 3689348814741910323) (by omega) (by omega)
  rw [← hb2] at n3
  rw [← hb3] at n4
  have p2 : IntKind.u64.wrap ((b2 : Int) + (b3 : Int)) = (b4 : Int) := by rw [hb4', ← Int.natCast_add, wrapu_lt (by omega)]
  have s3 : (b4 : Int).fdiv (2 ^ min 4 IntKind.u64.bits) = (c1 : Int) := by rw [shr_n b4 4 (by omega), hc1]
  have p3 : IntKind.u64.wrap ((c1 : Int) + (b4 : Int)) = (c2 : Int) := by rw [hc2, ← Int.natCast_add, wrapu_lt (by omega)]
  have n5 := and_n (a := c2) (b := 1085102592571150095) (by omega) (by omega)
  rw [← hc3] at n5
  have s4 : (c3 : Int).fdiv (2 ^ min 8 IntKind.u64.bits) = (d1 : Int) := by rw [shr_n c3 8 (by omega), hd1]
  have p4 : IntKind.u64.wrap ((c3 : Int) + (d1 : Int)) = (d2 : Int) := by rw [hd2, ← Int.natCast_add, wrapu_lt (by omega)]
  have s5 : (d2 : Int).fdiv (2 ^ min 16 IntKind.u64.bits) = (e1 : Int) := by rw [shr_n d2 16 (by omega), he1]
  have p5 : IntKind.u64.wrap ((d2 : Int) + (e1 : Int)) = (e2 : Int) := by rw [he2, ← Int.natCast_add, wrapu_lt (by omega)]
  have s6 : (e2 : Int).fdiv (2 ^ min 32 IntKind.u64.bits) = (f1 : Int) := by rw [shr_n e2 32 (by omega), hf1]
  have p6 : IntKind.u64.wrap ((e2 : Int) + (f1 : Int)) = (f2 : Int) := by rw [hf2, ← Int.natCast_add, wrapu_lt (by omega)]
  have t1 : IntKind.i64.wrap (f2 : Int) = (f2 : Int) := wrap64 _ (by omega) (by omega)
  have n6 : IntKind.i64.wrap ((f2 % 2 ^ IntKind.i64.bits &&& 127 % 2 ^ IntKind.i64.bits : Nat) : Int) = (g : Int) := by
    rw [show 2 ^ IntKind.i64.bits = 18446744073709551616 from rfl, Nat.mod_eq_of_lt (by omega), show 127 % 18446744073709551616 = 2 ^ 7 - 1 from rfl, Nat.and_two_pow_sub_one_eq_mod, wrap64 _ (by omega) (by omega), hg]
  clear l1 l2 l3 ha1 ha2 ha3 ha4 ha4' hb1 hb2 hb3 hb4 hb4' hc1 hc2 hc3 hc4 hd1 hd2 he1 he2 hf1 hf2 hg ba2 ba3 bb2 bb3
  rw [Yv (X := X) _ b47 _ rfl rfl]; unfold b47; (repeat (first | rw [ZB] | rw [Ze (by simp [ZN, ZE, ZG, ZH, Zy, Zj, Zw, Zm, Zo, Zc, Zd, Zn, Zz, ZA, ZI, ↓Zl, Zx, Zk, ZF, Zq, Zp, ZZ, ZD, Yk, put, lk, Od.v, Za, Zi, Zu, Yn, Yc, Yd, Ye, Yo, Yl, DV.isU, DV.cells, hget, ZO, Yb, ZP, Zv, splice, DV.one, ZQ, mat, Ya, Ym, s1, n1, n2, p1, s2, n3, n4, p2, s3, p3, n5, s4, p4, s5, p5, s6, p6, t1, n6]; exact ⟨rfl, rfl⟩)] | rw [ZR (by simp [lk, Za, Od.v, s1, n1, n2, p1, s2, n3, n4, p2, s3, p3, n5, s4, p4, s5, p5, s6, p6, t1, n6]; exact rfl)] | rw [Zq] | rw [Zp] | rw [ZJ] | rw [ZV] | rw [ZK] | rw [ZU] | rw [ZM] | rw [ZL] | rw [ZC] | rw [Zs] | rw [Zt] | rw [Zh (by decide)] | rw [Zr] | rw [Zf] | rw [Zg] | rw [Zb (by decide)] | rw [ZY] | rw [ZW (by simp [ZN, ZE, ZG, ZH, Zy, Zj, Zw, Zm, Zo, Zc, Zd, Zn, Zz, ZA, ZI, ↓Zl, Zx, Zk, ZF, Zq, Zp, ZZ, ZD, Yk, put, lk, Od.v, Za, Zi, Zu, Yn, Yc, Yd, Ye, Yo, Yl, DV.isU, DV.cells, hget, ZO, Yb, ZP, Zv, splice, DV.one, ZQ, mat, Ya, Ym, s1, n1, n2, p1, s2, n3, n4, p2, s3, p3, n5, s4, p4, s5, p5, s6, p6, t1, n6]; exact ⟨rfl, rfl⟩)] | rw [ZX (by simp [lk, Za, Od.v, s1, n1, n2, p1, s2, n3, n4, p2, s3, p3, n5, s4, p4, s5, p5, s6, p6, t1, n6]; exact rfl)] | rw [ZS])); simp [Yf, Yg, Yr, ZN, ZE, ZG, ZH, Zy, Zj, Zw, Zm, Zo, Zc, Zd, Zn, Zz, ZA, ZI, ↓Zl, Zx, Zk, ZF, Zq, Zp, ZZ, ZD, Yk, put, lk, Od.v, Za, Zi, Zu, Yn, Yc, Yd, Ye, Yo, Yl, DV.isU, DV.cells, hget, ZO, Yb, ZP, Zv, splice, DV.one, ZQ, mat, Ya, Ym, fin, fz0, fz1, fzT, fzL, nlt, s1, n1, n2, p1, s2, n3, n4, p2, s3, p3, n5, s4, p4, s5, p5, s6, p6, t1, n6]
/-- How many numbers. -/
def cntW : List Nat → Nat
  | [] => 0
  | w :: ws => pops 64 w + cntW ws
theorem cnt_bits : ∀ (ws : List Nat) (k : Nat), (bitsOf ws k).length = cntW ws
  | [], _ => rfl
  | w :: ws, k => by
    simp only [bitsOf, cntW, List.length_append, cnt_bits ws (k + 1)]
    simp [wbits, pops]
theorem cntW_le (ws : List Nat) : cntW ws ≤ 64 * ws.length := by
  rw [← cnt_bits ws 0]; exact bitsOf_len ws 0
theorem cnt_take (ws : List Nat) (i : Nat) (h : i < ws.length) : cntW (ws.take (i + 1)) = cntW (ws.take i) + pops 64 ws[i] := by
  rw [← cnt_bits _ 0, ← cnt_bits _ 0, bitsOf_take ws 0 i h, List.length_append]
  congr 1
  simp [wbits, pops, at0_eq h]
theorem loop13 {H : ZT} {W : DV} {ws : List Nat} (hv : vw H 1 W = some (ws.map uD)) (bw : WB ws) (hb : ws.length ≤ 1000000) :
    ∀ (m i : Nat), ws.length - i ≤ m → i ≤ ws.length → ∃ y ex, C X (.loop lp13_0) [(3, .int .i64 (cntW (ws.take i) : Nat)), (7, W), (8, .int .i64 ws.length), (9, .int .i64 i)] H = some (.exit 0, (3, .int .i64 (cntW ws : Nat)) :: (7, W) :: (8, .int .i64 ws.length) :: (9, y) :: ex, H) := by
  intro m
  induction m with
  | zero =>
    intro i hm hi
    obtain rfl : i = ws.length := by omega
    rw [List.take_length]
    refine ⟨.int .i64 ws.length, [(10, .bool false)], ?_⟩
    rw [Yj]
    unfold lp13_0
    (repeat (first | rw [ZB] | rw [Ze (by simp [ZN, ZE, ZG, ZH, Zy, Zj, Zw, Zm, Zo, Zc, Zd, Zn, Zz, ZA, ZI, ↓Zl, Zx, Zk, ZF, Zq, Zp, ZZ, ZD, Yk, put, lk, Od.v, Za, Zi, Zu, Yn, Yc, Yd, Ye, Yo, Yl, DV.isU, DV.cells, hget, ZO, Yb, ZP, Zv, splice, DV.one, ZQ, mat, Ya, Ym]; exact ⟨rfl, rfl⟩)] | rw [ZR (by simp [lk, Za, Od.v]; exact rfl)] | rw [Zq] | rw [Zp] | rw [ZJ] | rw [ZV] | rw [ZK] | rw [ZU] | rw [ZM] | rw [ZL] | rw [ZC] | rw [Zs] | rw [Zt] | rw [Zh (by decide)] | rw [Zr] | rw [Zf] | rw [Zg] | rw [Zb (by decide)] | rw [ZY] | rw [ZW (by simp [ZN, ZE, ZG, ZH, Zy, Zj, Zw, Zm, Zo, Zc, Zd, Zn, Zz, ZA, ZI, ↓Zl, Zx, Zk, ZF, Zq, Zp, ZZ, ZD, Yk, put, lk, Od.v, Za, Zi, Zu, Yn, Yc, Yd, Ye, Yo, Yl, DV.isU, DV.cells, hget, ZO, Yb, ZP, Zv, splice, DV.one, ZQ, mat, Ya, Ym]; exact ⟨rfl, rfl⟩)] | rw [ZX (by simp [lk, Za, Od.v]; exact rfl)] | rw [ZS]))
    rw [Yq]
    simp [Za, lk]
  | succ m ih =>
    intro i hm hi
    by_cases c1 : i < ws.length
    · obtain ⟨I, hI⟩ : ∃ I, I = i + 1 := ⟨_, rfl⟩
      have w1 : IntKind.i64.wrap ((i : Int) + 1) = (I : Int) := (by rw [wrap64 _ (by omega) (by omega)]; omega)
      have e44 := fun h => run47 ws[i] (bw _ (List.getElem_mem _)) h
      have ct := cnt_take ws i c1
      rw [← hI] at ct
      have hle := cntW_le (ws.take I)
      rw [List.length_take] at hle
      have w2 : IntKind.i64.wrap ((cntW (ws.take i) : Int) + (pops 64 ws[i] : Int)) = (cntW (ws.take I) : Int) := by rw [wrap64 _ (by omega) (by omega)]; omega
      have hc : C X lp13_0 [(3, .int .i64 (cntW (ws.take i) : Nat)), (7, W), (8, .int .i64 ws.length), (9, .int .i64 i)] H = some (.norm, [(3, .int .i64 (cntW (ws.take I) : Nat)), (7, W), (8, .int .i64 ws.length), (9, .int .i64 I)], H) := by
        clear ih hle ct
        generalize cntW (ws.take i) = c at *
        generalize cntW (ws.take I) = c' at *
        generalize pops 64 ws[i] = pp at *
        unfold lp13_0
        (repeat (first | rw [ZB] | rw [Ze (by simp [ZN, ZE, ZG, ZH, Zy, Zj, Zw, Zm, Zo, Zc, Zd, Zn, Zz, ZA, ZI, ↓Zl, Zx, Zk, ZF, Zq, Zp, ZZ, ZD, Yk, put, lk, Od.v, Za, Zi, Zu, Yn, Yc, Yd, Ye, Yo, Yl, DV.isU, DV.cells, hget, ZO, Yb, ZP, Zv, splice, DV.one, ZQ, mat, Ya, Ym, c1, w1, w2, hv, Yy, e44]; exact ⟨rfl, rfl⟩)] | rw [ZR (by simp [lk, Za, Od.v, c1, w1, w2, hv, Yy, e44]; exact rfl)] | rw [Zq] | rw [Zp] | rw [ZJ] | rw [ZV] | rw [ZK] | rw [ZU] | rw [ZM] | rw [ZL] | rw [ZC] | rw [Zs] | rw [Zt] | rw [Zh (by decide)] | rw [Zr] | rw [Zf] | rw [Zg] | rw [Zb (by decide)] | rw [ZY] | rw [ZW (by simp [ZN, ZE, ZG, ZH, Zy, Zj, Zw, Zm, Zo, Zc, Zd, Zn, Zz, ZA, ZI, ↓Zl, Zx, Zk, ZF, Zq, Zp, ZZ, ZD, Yk, put, lk, Od.v, Za, Zi, Zu, Yn, Yc, Yd, Ye, Yo, Yl, DV.isU, DV.cells, hget, ZO, Yb, ZP, Zv, splice, DV.one, ZQ, mat, Ya, Ym, c1, w1, w2, hv, Yy, e44]; exact ⟨rfl, rfl⟩)] | rw [ZX (by simp [lk, Za, Od.v, c1, w1, w2, hv, Yy, e44]; exact rfl)] | rw [ZS]))
        simp [Za, lk]
      rw [Yj, hc, Yt]
      exact ih I (by omega) (by omega)
    · exact ih i (by omega) hi
theorem run13 {W : DV} {ws : List Nat} (hW : WL W ws) (bw : WB ws) (hb : ws.length ≤ 1000000) (H : ZT) : E X 13 [.agg [W]] H = some (.int .i64 ((bitsOf ws 0).length : Nat), H) := by
  rw [cnt_bits]
  have hv := hW.vw (H ++ [.box 30 [W]])
  obtain ⟨y, ex, hc⟩ := loop13 hv bw hb ws.length 0 (by omega) (by omega)
  rw [show cntW (ws.take 0) = 0 from rfl, show ((0 : Nat) : Int) = 0 from rfl] at hc
  generalize cntW ws = c at *
  rw [Yv (X := X) _ b13 _ rfl rfl]; unfold b13
  (repeat (first | rw [ZB] | rw [Ze (by simp [ZN, ZE, ZG, ZH, Zy, Zj, Zw, Zm, Zo, Zc, Zd, Zn, Zz, ZA, ZI, ↓Zl, Zx, Zk, ZF, Zq, Zp, ZZ, ZD, Yk, put, lk, Od.v, Za, Zi, Zu, Yn, Yc, Yd, Ye, Yo, Yl, DV.isU, DV.cells, hget, ZO, Yb, ZP, Zv, splice, DV.one, ZQ, mat, Ya, Ym, hv]; exact ⟨rfl, rfl⟩)] | rw [ZR (by simp [lk, Za, Od.v, hv]; exact rfl)] | rw [Zq] | rw [Zp] | rw [ZJ] | rw [ZV] | rw [ZK] | rw [ZU] | rw [ZM] | rw [ZL] | rw [ZC] | rw [Zs] | rw [Zt] | rw [Zh (by decide)] | rw [Zr] | rw [Zf] | rw [Zg] | rw [Zb (by decide)] | rw [ZY] | rw [ZW (by simp [ZN, ZE, ZG, ZH, Zy, Zj, Zw, Zm, Zo, Zc, Zd, Zn, Zz, ZA, ZI, ↓Zl, Zx, Zk, ZF, Zq, Zp, ZZ, ZD, Yk, put, lk, Od.v, Za, Zi, Zu, Yn, Yc, Yd, Ye, Yo, Yl, DV.isU, DV.cells, hget, ZO, Yb, ZP, Zv, splice, DV.one, ZQ, mat, Ya, Ym, hv]; exact ⟨rfl, rfl⟩)] | rw [ZX (by simp [lk, Za, Od.v, hv]; exact rfl)] | rw [ZS]))
  (try simp only [Za, List.map_cons, List.map_nil, lk, reduceIte, Nat.reduceEqDiff, Nat.zero_ne_one, Nat.one_ne_zero])
  rw [hc]
  (repeat (first | rw [ZB] | rw [Ze (by simp [ZN, ZE, ZG, ZH, Zy, Zj, Zw, Zm, Zo, Zc, Zd, Zn, Zz, ZA, ZI, ↓Zl, Zx, Zk, ZF, Zq, Zp, ZZ, ZD, Yk, put, lk, Od.v, Za, Zi, Zu, Yn, Yc, Yd, Ye, Yo, Yl, DV.isU, DV.cells, hget, ZO, Yb, ZP, Zv, splice, DV.one, ZQ, mat, Ya, Ym]; exact ⟨rfl, rfl⟩)] | rw [ZR (by simp [lk, Za, Od.v]; exact rfl)] | rw [Zq] | rw [Zp] | rw [ZJ] | rw [ZV] | rw [ZK] | rw [ZU] | rw [ZM] | rw [ZL] | rw [ZC] | rw [Zs] | rw [Zt] | rw [Zh (by decide)] | rw [Zr] | rw [Zf] | rw [Zg] | rw [Zb (by decide)] | rw [ZY] | rw [ZW (by simp [ZN, ZE, ZG, ZH, Zy, Zj, Zw, Zm, Zo, Zc, Zd, Zn, Zz, ZA, ZI, ↓Zl, Zx, Zk, ZF, Zq, Zp, ZZ, ZD, Yk, put, lk, Od.v, Za, Zi, Zu, Yn, Yc, Yd, Ye, Yo, Yl, DV.isU, DV.cells, hget, ZO, Yb, ZP, Zv, splice, DV.one, ZQ, mat, Ya, Ym]; exact ⟨rfl, rfl⟩)] | rw [ZX (by simp [lk, Za, Od.v]; exact rfl)] | rw [ZS]))
  simp [Yf, Yg, Yr, ZN, ZE, ZG, ZH, Zy, Zj, Zw, Zm, Zo, Zc, Zd, Zn, Zz, ZA, ZI, ↓Zl, Zx, Zk, ZF, Zq, Zp, ZZ, ZD, Yk, put, lk, Od.v, Za, Zi, Zu, Yn, Yc, Yd, Ye, Yo, Yl, DV.isU, DV.cells, hget, ZO, Yb, ZP, Zv, splice, DV.one, ZQ, mat, Ya, Ym, fin, fz0, fz1, fzT, fzL, nlt]
end Go.Proofs.YtebjndbigoddnaaDoor
