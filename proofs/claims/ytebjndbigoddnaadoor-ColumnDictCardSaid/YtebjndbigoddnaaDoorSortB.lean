/- Ideal runs: sifting down, heap sort, a range turned round. Ideal runs: the pivot. Ideal runs: heap sort; a range turned round; patterns broken. Ideal runs: patterns broken. -/
import Derived.Test.YtebjndbigoddnaaDoorPlainM
namespace Go.Proofs.YtebjndbigoddnaaDoor
attribute [local go_sem] ZN ZE ZG ZH Zy Zj Zw Zm Zo Zb Zc Zn Zz ZA ZI Zx Zk ZF Zq Zp ZZ ZD Yk put lk Od.v Za Zf Zu Yn Yc Yd Ye Yo Yl DV.isU DV.cells hget ZO Yb ZP Zv splice ZQ mat Ya Ym one_bool one_int one_str one_nilp one_ref one_elem one_nils one_list one_row one_nilm one_map one_nilf one_func one_nili one_ifc one_agg one_tup one_undef one_fresh
attribute [local go_sem ↓] Zl
set_option linter.unusedVariables false
set_option linter.unusedSimpArgs false
set_option maxRecDepth 10000
theorem Yy {H : ZY} {r n : Nat} (g : Nat) (d : Array V) (hr : r < H.length) (hd : d.size = n) : vw (hp H r g d) 4 (rw_ r g n) = some (d.toList.map V.d) := by
  subst hd; exact hp_vw g d hr
theorem rdS {H : ZY} {r n : Nat} (g : Nat) (d : Array V) (hr : r < H.length) (hd : d.size = n) {i : Nat} (hi : i < n) : Yw (hp H r g d) true 4 (.elem (rw_ r g n) 4 i 0) = some (el d i).d := by
  subst hd; exact hp_rd g d hr hi
theorem wrS {H : ZY} {r n : Nat} (g : Nat) (d : Array V) (hr : r < H.length) (hd : d.size = n) {i : Nat} (hi : i < n) (v : V) : stx (hp H r g d) 4 (.elem (rw_ r g n) 4 i 0) (.agg [.int .i64 v.k, .int .i64 v.n, .str v.s, .bool v.t]) = some (hp H r g (upA d i v)) := by
  subst hd; exact hp_wr g d hr hi v
theorem lt_pos {a b : V} (h : lt a b = true) : ord a b < 0 := by simpa [lt] using h
theorem lt_neg {a b : V} (h : lt a b = false) : ¬ ord a b < 0 := by simpa [lt] using h
theorem siftDown_eq (hi first root : Nat) (d : Array V) : Go.Sort.siftDown lt hi first root d =
    if 2 * root + 1 ≥ hi then d else
      let c := if 2 * root + 1 + 1 < hi ∧ lt (el d (first + (2 * root + 1))) (el d (first + (2 * root + 1) + 1)) = true then 2 * root + 1 + 1 else 2 * root + 1
      if lt (el d (first + root)) (el d (first + c)) = true then Go.Sort.siftDown lt hi first c (Go.Sort.swp d (first + root) (first + c)) else d := by
  rw [Go.Sort.siftDown]
  by_cases h1 : 2 * root + 1 ≥ hi
  · rw [dif_pos h1, if_pos h1]
  · rw [dif_neg h1, if_neg h1]
    by_cases h2 : 2 * root + 1 + 1 < hi ∧ lt (el d (first + (2 * root + 1))) (el d (first + (2 * root + 1) + 1)) = true
    · have h3 : (decide (2 * root + 1 + 1 < hi) && lt d[first + (2 * root + 1)]! d[first + (2 * root + 1) + 1]!) = true := by
        simp only [Bool.and_eq_true, decide_eq_true_eq]; exact h2
      rw [if_pos h3, if_pos h2]
      have h4 : lt d[first + root]! d[first + (2 * root + 2)]! = lt (el d (first + root)) (el d (first + (2 * root + 1 + 1))) := rfl
      rw [h4]
      cases h5 : lt (el d (first + root)) (el d (first + (2 * root + 1 + 1)))
      · simp [h5]
      · simp only [Bool.not_true, Bool.false_eq_true, if_false, if_true]
        rw [dif_pos (by omega), if_pos h5]
    · have h3 : ¬ (decide (2 * root + 1 + 1 < hi) && lt d[first + (2 * root + 1)]! d[first + (2 * root + 1) + 1]!) = true := by
        simp only [Bool.and_eq_true, decide_eq_true_eq]; exact h2
      rw [if_neg h3, if_neg h2]
      have h4 : lt d[first + root]! d[first + (2 * root + 1)]! = lt (el d (first + root)) (el d (first + (2 * root + 1))) := rfl
      rw [h4]
      cases h5 : lt (el d (first + root)) (el d (first + (2 * root + 1)))
      · simp [h5]
      · simp [h5]
theorem loop142 {H : ZY} {r g n hi first : Nat} (hr : r < H.length) (hn : n ≤ 1000000) (hb : first + hi ≤ n) :
    ∀ (k root : Nat) (d : Array V), hi - root ≤ k → root < hi + 1 → d.size = n → ∃ ex e', (ex = .exit 0 ∨ ex = .ret) ∧ C X (.loop lp142_0) [(0, rw_ r g n), (2, .int .i64 hi), (3, .int .i64 first), (4, .func 98 [] []), (10, .int .i64 root)] (hp H r g d) = some (ex, e', hp H r g (Go.Sort.siftDown lt hi first root d)) := by
  intro k
  induction k with
  | zero =>
    intro root d hk hroot hd
    obtain rfl : root = hi := by omega
    obtain ⟨R, hR⟩ : ∃ R, R = 2 * root := ⟨_, rfl⟩
    obtain ⟨c, hc⟩ : ∃ c, c = 2 * root + 1 := ⟨_, rfl⟩
    have w1 : IntKind.i64.wrap (2 * (root : Int)) = (R : Int) := (by rw [wrap64 _ (by omega) (by omega)]; omega)
    have w2 : IntKind.i64.wrap ((R : Int) + 1) = (c : Int) := (by rw [wrap64 _ (by omega) (by omega)]; omega)
    have w3 : root ≤ c := by omega
    rw [siftDown_eq, if_pos (by omega), Yj]
    unfold lp142_0
    (repeat (first | rw [ZB] | rw [Ze (by simp [go_sem, w1, w2, w3]; exact ⟨rfl, rfl⟩)] | rw [ZR (by simp [lk, Za, Od.v, w1, w2, w3]; exact rfl)] | rw [Zq] | rw [Zp] | rw [ZJ] | rw [ZU] | rw [ZK] | rw [ZT] | rw [ZM] | rw [ZL] | rw [ZC] | rw [Zs] | rw [Zt] | rw [Zi (by decide)] | rw [Zr] | rw [Zg] | rw [Zh] | rw [Zd (by decide)] | rw [ZX] | rw [ZV (by simp [go_sem, w1, w2, w3]; exact ⟨rfl, rfl⟩)] | rw [ZW (by simp [lk, Za, Od.v, w1, w2, w3]; exact rfl)] | rw [ZS]))
    rw [Yr]
    exact ⟨_, _, .inl rfl, rfl⟩
  | succ k ih =>
    intro root d hk hroot hd
    obtain ⟨R, hR⟩ : ∃ R, R = 2 * root := ⟨_, rfl⟩
    obtain ⟨c, hc⟩ : ∃ c, c = 2 * root + 1 := ⟨_, rfl⟩
    have w1 : IntKind.i64.wrap (2 * (root : Int)) = (R : Int) := (by rw [wrap64 _ (by omega) (by omega)]; omega)
    have w2 : IntKind.i64.wrap ((R : Int) + 1) = (c : Int) := (by rw [wrap64 _ (by omega) (by omega)]; omega)
    rw [siftDown_eq, ← hc]
    by_cases w3 : hi ≤ c
    · rw [if_pos w3, Yj]
      unfold lp142_0
      (repeat (first | rw [ZB] | rw [Ze (by simp [go_sem, w1, w2, w3]; exact ⟨rfl, rfl⟩)] | rw [ZR (by simp [lk, Za, Od.v, w1, w2, w3]; exact rfl)] | rw [Zq] | rw [Zp] | rw [ZJ] | rw [ZU] | rw [ZK] | rw [ZT] | rw [ZM] | rw [ZL] | rw [ZC] | rw [Zs] | rw [Zt] | rw [Zi (by decide)] | rw [Zr] | rw [Zg] | rw [Zh] | rw [Zd (by decide)] | rw [ZX] | rw [ZV (by simp [go_sem, w1, w2, w3]; exact ⟨rfl, rfl⟩)] | rw [ZW (by simp [lk, Za, Od.v, w1, w2, w3]; exact rfl)] | rw [ZS]))
      rw [Yr]
      exact ⟨_, _, .inl rfl, rfl⟩
    rw [if_neg w3]
    obtain ⟨c1, hc1⟩ : ∃ c1, c1 = c + 1 := ⟨_, rfl⟩
    obtain ⟨a, ha⟩ : ∃ a, a = first + c := ⟨_, rfl⟩
    obtain ⟨a1, ha1⟩ : ∃ a1, a1 = first + c + 1 := ⟨_, rfl⟩
    obtain ⟨b, hb'⟩ : ∃ b, b = first + root := ⟨_, rfl⟩
    have w4 : IntKind.i64.wrap ((c : Int) + 1) = (c1 : Int) := (by rw [wrap64 _ (by omega) (by omega)]; omega)
    have w5 : IntKind.i64.wrap ((first : Int) + c) = (a : Int) := (by rw [wrap64 _ (by omega) (by omega)]; omega)
    have w6 : IntKind.i64.wrap ((a : Int) + 1) = (a1 : Int) := (by rw [wrap64 _ (by omega) (by omega)]; omega)
    have w7 : IntKind.i64.wrap ((first : Int) + c1) = (a1 : Int) := (by rw [wrap64 _ (by omega) (by omega)]; omega)
    have w8 : IntKind.i64.wrap ((first : Int) + root) = (b : Int) := (by rw [wrap64 _ (by omega) (by omega)]; omega)
    have u1 : a < n := by omega
    have u2 : b < n := by omega
    rw [← ha1, ← ha, ← hb', ← hc1]
    -- one round, towards a child c' at a'
    have fin : ∀ (c' a' : Nat), c' = c ∨ (c' = c1 ∧ c1 < hi) → a' = first + c' → C X lp142_0 [(0, rw_ r g n), (2, .int .i64 hi), (3, .int .i64 first), (4, .func 98 [] []), (10, .int .i64 root)] (hp H r g d) =
        (if lt (el d b) (el d a') = true then some (.norm, [(0, rw_ r g n), (2, .int .i64 hi), (3, .int .i64 first), (4, .func 98 [] []), (10, .int .i64 c')], hp H r g (Go.Sort.swp d b a')) else some (.ret, [(0, rw_ r g n), (2, .int .i64 hi), (3, .int .i64 first), (4, .func 98 [] []), (10, .int .i64 root), (11, .int .i64 c'), (58, .bool true)], hp H r g d)) →
        ∃ ex e', (ex = .exit 0 ∨ ex = .ret) ∧ C X (.loop lp142_0) [(0, rw_ r g n), (2, .int .i64 hi), (3, .int .i64 first), (4, .func 98 [] []), (10, .int .i64 root)] (hp H r g d) = some (ex, e', hp H r g (if lt (el d b) (el d (first + c')) = true then Go.Sort.siftDown lt hi first c' (Go.Sort.swp d b (first + c')) else d)) := by
      intro c' a' h1 h2 h3
      rw [Yj, h3, ← h2]
      by_cases h4 : lt (el d b) (el d a') = true
      · rw [if_pos h4, if_pos h4, Yu]
        exact ih c' _ (by omega) (by omega) (by rw [swp_size, hd])
      · rw [if_neg h4, if_neg h4, lp_ret]
        exact ⟨_, _, .inr rfl, rfl⟩
    by_cases h1 : c1 < hi
    · have h1' : ¬ hi ≤ c1 := by omega
      have u3 : a1 < n := by omega
      cases h2 : lt (el d a) (el d a1)
      · rw [if_neg (show ¬ (c1 < hi ∧ false = true) by simp)]
        refine fin c a (.inl rfl) ha ?_
        have q1 := lt_neg h2
        cases h3 : lt (el d b) (el d a)
        · have q2 := lt_neg h3
          unfold lp142_0
          (repeat (first | rw [ZB] | rw [Ze (by simp [go_sem, w1, w2, w3, w4, w5, w6, w7, w8, u1, u2, u3, h1, h1', hr, hd, Yy, rdS, run98, q1, q2]; exact ⟨rfl, rfl⟩)] | rw [ZR (by simp [lk, Za, Od.v, w1, w2, w3, w4, w5, w6, w7, w8, u1, u2, u3, h1, h1', hr, hd, Yy, rdS, run98, q1, q2]; exact rfl)] | rw [Zq] | rw [Zp] | rw [ZJ] | rw [ZU] | rw [ZK] | rw [ZT] | rw [ZM] | rw [ZL] | rw [ZC] | rw [Zs] | rw [Zt] | rw [Zi (by decide)] | rw [Zr] | rw [Zg] | rw [Zh] | rw [Zd (by decide)] | rw [ZX] | rw [ZV (by simp [go_sem, w1, w2, w3, w4, w5, w6, w7, w8, u1, u2, u3, h1, h1', hr, hd, Yy, rdS, run98, q1, q2]; exact ⟨rfl, rfl⟩)] | rw [ZW (by simp [lk, Za, Od.v, w1, w2, w3, w4, w5, w6, w7, w8, u1, u2, u3, h1, h1', hr, hd, Yy, rdS, run98, q1, q2]; exact rfl)] | rw [ZS]))
          simp [Za, lk]
        · have q2 := lt_pos h3
          unfold lp142_0
          rw [swp_upd]
          (repeat (first | rw [ZB] | rw [Ze (by simp [go_sem, w1, w2, w3, w4, w5, w6, w7, w8, u1, u2, u3, h1, h1', hr, hd, Yy, rdS, wrS, Yh, run98, q1, q2]; exact ⟨rfl, rfl⟩)] | rw [ZR (by simp [lk, Za, Od.v, w1, w2, w3, w4, w5, w6, w7, w8, u1, u2, u3, h1, h1', hr, hd, Yy, rdS, wrS, Yh, run98, q1, q2]; exact rfl)] | rw [Zq] | rw [Zp] | rw [ZJ] | rw [ZU] | rw [ZK] | rw [ZT] | rw [ZM] | rw [ZL] | rw [ZC] | rw [Zs] | rw [Zt] | rw [Zi (by decide)] | rw [Zr] | rw [Zg] | rw [Zh] | rw [Zd (by decide)] | rw [ZX] | rw [ZV (by simp [go_sem, w1, w2, w3, w4, w5, w6, w7, w8, u1, u2, u3, h1, h1', hr, hd, Yy, rdS, wrS, Yh, run98, q1, q2]; exact ⟨rfl, rfl⟩)] | rw [ZW (by simp [lk, Za, Od.v, w1, w2, w3, w4, w5, w6, w7, w8, u1, u2, u3, h1, h1', hr, hd, Yy, rdS, wrS, Yh, run98, q1, q2]; exact rfl)] | rw [ZS]))
          simp [Za, lk]
      · rw [if_pos (show c1 < hi ∧ true = true from ⟨h1, rfl⟩)]
        refine fin c1 a1 (.inr ⟨rfl, h1⟩) (by omega) ?_
        have q1 := lt_pos h2
        cases h3 : lt (el d b) (el d a1)
        · have q2 := lt_neg h3
          unfold lp142_0
          (repeat (first | rw [ZB] | rw [Ze (by simp [go_sem, w1, w2, w3, w4, w5, w6, w7, w8, u1, u2, u3, h1, h1', hr, hd, Yy, rdS, run98, q1, q2]; exact ⟨rfl, rfl⟩)] | rw [ZR (by simp [lk, Za, Od.v, w1, w2, w3, w4, w5, w6, w7, w8, u1, u2, u3, h1, h1', hr, hd, Yy, rdS, run98, q1, q2]; exact rfl)] | rw [Zq] | rw [Zp] | rw [ZJ] | rw [ZU] | rw [ZK] | rw [ZT] | rw [ZM] | rw [ZL] | rw [ZC] | rw [Zs] | rw [Zt] | rw [Zi (by decide)] | rw [Zr] | rw [Zg] | rw [Zh] | rw [Zd (by decide)] | rw [ZX] | rw [ZV (by simp [go_sem, w1, w2, w3, w4, w5, w6, w7, w8, u1, u2, u3, h1, h1', hr, hd, Yy, rdS, run98, q1, q2]; exact ⟨rfl, rfl⟩)] | rw [ZW (by simp [lk, Za, Od.v, w1, w2, w3, w4, w5, w6, w7, w8, u1, u2, u3, h1, h1', hr, hd, Yy, rdS, run98, q1, q2]; exact rfl)] | rw [ZS]))
          simp [Za, lk]
        · have q2 := lt_pos h3
          unfold lp142_0
          rw [swp_upd]
          (repeat (first | rw [ZB] | rw [Ze (by simp [go_sem, w1, w2, w3, w4, w5, w6, w7, w8, u1, u2, u3, h1, h1', hr, hd, Yy, rdS, wrS, Yh, run98, q1, q2]; exact ⟨rfl, rfl⟩)] | rw [ZR (by simp [lk, Za, Od.v, w1, w2, w3, w4, w5, w6, w7, w8, u1, u2, u3, h1, h1', hr, hd, Yy, rdS, wrS, Yh, run98, q1, q2]; exact rfl)] | rw [Zq] | rw [Zp] | rw [ZJ] | rw [ZU] | rw [ZK] | rw [ZT] | rw [ZM] | rw [ZL] | rw [ZC] | rw [Zs] | rw [Zt] | rw [Zi (by decide)] | rw [Zr] | rw [Zg] | rw [Zh] | rw [Zd (by decide)] | rw [ZX] | rw [ZV (by simp [go_sem, w1, w2, w3, w4, w5, w6, w7, w8, u1, u2, u3, h1, h1', hr, hd, Yy, rdS, wrS, Yh, run98, q1, q2]; exact ⟨rfl, rfl⟩)] | rw [ZW (by simp [lk, Za, Od.v, w1, w2, w3, w4, w5, w6, w7, w8, u1, u2, u3, h1, h1', hr, hd, Yy, rdS, wrS, Yh, run98, q1, q2]; exact rfl)] | rw [ZS]))
          simp [Za, lk]
    · rw [if_neg (show ¬ (c1 < hi ∧ lt (el d a) (el d a1) = true) from fun h => h1 h.1)]
      refine fin c a (.inl rfl) ha ?_
      cases h3 : lt (el d b) (el d a)
      · have q2 := lt_neg h3
        unfold lp142_0
        (repeat (first | rw [ZB] | rw [Ze (by simp [go_sem, w1, w2, w3, w4, w5, w6, w7, w8, u1, u2, h1, hr, hd, Yy, rdS, run98, q2]; exact ⟨rfl, rfl⟩)] | rw [ZR (by simp [lk, Za, Od.v, w1, w2, w3, w4, w5, w6, w7, w8, u1, u2, h1, hr, hd, Yy, rdS, run98, q2]; exact rfl)] | rw [Zq] | rw [Zp] | rw [ZJ] | rw [ZU] | rw [ZK] | rw [ZT] | rw [ZM] | rw [ZL] | rw [ZC] | rw [Zs] | rw [Zt] | rw [Zi (by decide)] | rw [Zr] | rw [Zg] | rw [Zh] | rw [Zd (by decide)] | rw [ZX] | rw [ZV (by simp [go_sem, w1, w2, w3, w4, w5, w6, w7, w8, u1, u2, h1, hr, hd, Yy, rdS, run98, q2]; exact ⟨rfl, rfl⟩)] | rw [ZW (by simp [lk, Za, Od.v, w1, w2, w3, w4, w5, w6, w7, w8, u1, u2, h1, hr, hd, Yy, rdS, run98, q2]; exact rfl)] | rw [ZS]))
        simp [Za, lk]
      · have q2 := lt_pos h3
        unfold lp142_0
        rw [swp_upd]
        (repeat (first | rw [ZB] | rw [Ze (by simp [go_sem, w1, w2, w3, w4, w5, w6, w7, w8, u1, u2, h1, hr, hd, Yy, rdS, wrS, Yh, run98, q2]; exact ⟨rfl, rfl⟩)] | rw [ZR (by simp [lk, Za, Od.v, w1, w2, w3, w4, w5, w6, w7, w8, u1, u2, h1, hr, hd, Yy, rdS, wrS, Yh, run98, q2]; exact rfl)] | rw [Zq] | rw [Zp] | rw [ZJ] | rw [ZU] | rw [ZK] | rw [ZT] | rw [ZM] | rw [ZL] | rw [ZC] | rw [Zs] | rw [Zt] | rw [Zi (by decide)] | rw [Zr] | rw [Zg] | rw [Zh] | rw [Zd (by decide)] | rw [ZX] | rw [ZV (by simp [go_sem, w1, w2, w3, w4, w5, w6, w7, w8, u1, u2, h1, hr, hd, Yy, rdS, wrS, Yh, run98, q2]; exact ⟨rfl, rfl⟩)] | rw [ZW (by simp [lk, Za, Od.v, w1, w2, w3, w4, w5, w6, w7, w8, u1, u2, h1, hr, hd, Yy, rdS, wrS, Yh, run98, q2]; exact rfl)] | rw [ZS]))
        simp [Za, lk]
theorem run142 {H : ZY} {r g n hi first root : Nat} (hr : r < H.length) (hn : n ≤ 1000000) (hb : first + hi ≤ n) (hroot : root ≤ hi) (d : Array V) (hd : d.size = n) :
    E X 142 [rw_ r g n, .int .i64 root, .int .i64 hi, .int .i64 first, .func 98 [] []] (hp H r g d) = some (.tup [], hp H r g (Go.Sort.siftDown lt hi first root d)) := by
  obtain ⟨ex, e', h1, h2⟩ := loop142 (H := H) (r := r) (g := g) (n := n) (hi := hi) (first := first) hr hn hb hi root d (by omega) (by omega) hd
  rw [Yt (X := X) _ b142 _ rfl rfl]; unfold b142
  (repeat (first | rw [ZB] | rw [Ze (by simp [go_sem]; exact ⟨rfl, rfl⟩)] | rw [ZR (by simp [lk, Za, Od.v]; exact rfl)] | rw [Zq] | rw [Zp] | rw [ZJ] | rw [ZU] | rw [ZK] | rw [ZT] | rw [ZM] | rw [ZL] | rw [ZC] | rw [Zs] | rw [Zt] | rw [Zi (by decide)] | rw [Zr] | rw [Zg] | rw [Zh] | rw [Zd (by decide)] | rw [ZX] | rw [ZV (by simp [go_sem]; exact ⟨rfl, rfl⟩)] | rw [ZW (by simp [lk, Za, Od.v]; exact rfl)] | rw [ZS]))
  (try simp only [Za, List.map_cons, List.map_nil, lk, reduceIte, Nat.reduceEqDiff, Nat.zero_ne_one, Nat.one_ne_zero])
  rw [h2]
  rcases h1 with rfl | rfl
  · (repeat (first | rw [ZB] | rw [Ze (by simp [go_sem]; exact ⟨rfl, rfl⟩)] | rw [ZR (by simp [lk, Za, Od.v]; exact rfl)] | rw [Zq] | rw [Zp] | rw [ZJ] | rw [ZU] | rw [ZK] | rw [ZT] | rw [ZM] | rw [ZL] | rw [ZC] | rw [Zs] | rw [Zt] | rw [Zi (by decide)] | rw [Zr] | rw [Zg] | rw [Zh] | rw [Zd (by decide)] | rw [ZX] | rw [ZV (by simp [go_sem]; exact ⟨rfl, rfl⟩)] | rw [ZW (by simp [lk, Za, Od.v]; exact rfl)] | rw [ZS]))
    simp [Yg, Yq, fin_hp]
  · (repeat (first | rw [ZB] | rw [Ze (by simp [go_sem]; exact ⟨rfl, rfl⟩)] | rw [ZR (by simp [lk, Za, Od.v]; exact rfl)] | rw [Zq] | rw [Zp] | rw [ZJ] | rw [ZU] | rw [ZK] | rw [ZT] | rw [ZM] | rw [ZL] | rw [ZC] | rw [Zs] | rw [Zt] | rw [Zi (by decide)] | rw [Zr] | rw [Zg] | rw [Zh] | rw [Zd (by decide)] | rw [ZX] | rw [ZV (by simp [go_sem]; exact ⟨rfl, rfl⟩)] | rw [ZW (by simp [lk, Za, Od.v]; exact rfl)] | rw [ZS]))
    simp [Yf, Yq, fin_hp]
end Go.Proofs.YtebjndbigoddnaaDoor
namespace Go.Proofs.YtebjndbigoddnaaDoor
set_option linter.unusedVariables false
set_option linter.unusedSimpArgs false
set_option maxRecDepth 10000
theorem fin_len1 {h h' : ZY} (hl : h'.length = h.length) {d : DV} (hd : d.plain = true) : fin h h' [d] = (d, h') := by
  have h1 : h'.take h.length = h' := by rw [← hl]; exact List.take_length
  rw [fin, h1]
  split
  · rename_i h2
    rw [fz1_plain _ _ _ hd]
    simp only
    rw [h2]
  · rfl
theorem fin_len2 {h h' : ZY} (hl : h'.length = h.length) {d e : DV} (hd : d.plain = true) (he : e.plain = true) : fin h h' [d, e] = (.tup [d, e], h') := by
  have h1 : h'.take h.length = h' := by rw [← hl]; exact List.take_length
  rw [fin, h1]
  · split
    · rename_i h2
      simp only [fzT, fz1_plain _ _ _ hd, fz1_plain _ _ _ he]
      rw [h2]
    · rfl
  · intro d h; cases h
/-- The heap with a row and, at its end, a counter. -/
def hs (H : ZY) (r g : Nat) (d : Array V) (s : Nat) : ZY := hp (H ++ [.box 3 [.int .i64 s]]) r g d
theorem hs_len (H : ZY) (r g : Nat) (d : Array V) (s : Nat) : (hs H r g d s).length = H.length + 1 := by simp [hs, hp_len]
theorem hs_get {H : ZY} {r : Nat} (g : Nat) (d : Array V) (s : Nat) (hr : r < H.length) : (hs H r g d s)[H.length]? = some (.box 3 [.int .i64 s]) := by
  rw [hs, hp, List.getElem?_set_ne (by omega : r ≠ H.length), ZO]; rfl
theorem hs_set {H : ZY} {r : Nat} (g : Nat) (d : Array V) (s s' : Nat) (hr : r < H.length) : (hs H r g d s).set H.length (.box 3 [.int .i64 s']) = hs H r g d s' := by
  simp only [hs, hp]
  rw [List.set_comm _ _ (by omega : r ≠ H.length), ZP]
  rfl
theorem hs_vw {H : ZY} {r n : Nat} (g : Nat) (d : Array V) (s : Nat) (hr : r < H.length) (hd : d.size = n) : vw (hs H r g d s) 4 (rw_ r g n) = some (d.toList.map V.d) := Yy g d (by simp; omega) hd
theorem hs_rd {H : ZY} {r n : Nat} (g : Nat) (d : Array V) (s : Nat) (hr : r < H.length) (hd : d.size = n) {i : Nat} (hi : i < n) : Yw (hs H r g d s) true 4 (.elem (rw_ r g n) 4 i 0) = some (el d i).d := rdS g d (by simp; omega) hd hi
theorem run147 {H : ZY} {r g n a b s : Nat} (hr : r < H.length) (hn : n ≤ 1000000) (ha : a < n) (hb : b < n) (hs' : s ≤ 1000) (d : Array V) (hd : d.size = n) :
    E X 147 [rw_ r g n, .int .i64 a, .int .i64 b, .ref H.length 0, .func 98 [] []] (hs H r g d s) = some (.tup [.int .i64 (Go.Sort.order2 lt d a b s).1, .int .i64 (Go.Sort.order2 lt d a b s).2.1], hs H r g d (Go.Sort.order2 lt d a b s).2.2) := by
  obtain ⟨S, hS⟩ : ∃ S, S = s + 1 := ⟨_, rfl⟩
  have w1 : IntKind.i64.wrap ((s : Int) + 1) = (S : Int) := (by rw [wrap64 _ (by omega) (by omega)]; omega)
  have g1 := hs_get g d s hr
  have g2 := hs_set g d s S hr
  have v1 := hs_vw (n := n) g d s hr hd
  have r1 := hs_rd (n := n) g d s hr hd ha
  have r2 := hs_rd (n := n) g d s hr hd hb
  have h3 : Go.Sort.order2 lt d a b s = if lt (el d b) (el d a) = true then (b, a, S) else (a, b, s) := by rw [hS]; rfl
  rw [h3]
  cases h1 : lt (el d b) (el d a)
  · have q := lt_neg h1
    rw [Yt (X := X) _ b147 _ rfl rfl]; unfold b147
    (repeat (first | rw [ZB] | rw [Ze (by simp [ZN, ZE, ZG, ZH, Zy, Zj, Zw, Zm, Zo, Zb, Zc, Zn, Zz, ZA, ZI, ↓Zl, Zx, Zk, ZF, Zq, Zp, ZZ, ZD, Yk, put, lk, Od.v, Za, Zf, Zu, Yn, Yc, Yd, Ye, Yo, Yl, DV.isU, DV.cells, hget, ZO, Yb, ZP, Zv, splice, DV.one, ZQ, mat, Ya, Ym, w1, g1, g2, v1, r1, r2, ha, hb, hd, run98, q]; exact ⟨rfl, rfl⟩)] | rw [ZR (by simp [lk, Za, Od.v, w1, g1, g2, v1, r1, r2, ha, hb, hd, run98, q]; exact rfl)] | rw [Zq] | rw [Zp] | rw [ZJ] | rw [ZU] | rw [ZK] | rw [ZT] | rw [ZM] | rw [ZL] | rw [ZC] | rw [Zs] | rw [Zt] | rw [Zi (by decide)] | rw [Zr] | rw [Zg] | rw [Zh] | rw [Zd (by decide)] | rw [ZX] | rw [ZV (by simp [ZN, ZE, ZG, ZH, Zy, Zj, Zw, Zm, Zo, Zb, Zc, Zn, Zz, ZA, ZI, ↓Zl, Zx, Zk, ZF, Zq, Zp, ZZ, ZD, Yk, put, lk, Od.v, Za, Zf, Zu, Yn, Yc, Yd, Ye, Yo, Yl, DV.isU, DV.cells, hget, ZO, Yb, ZP, Zv, splice, DV.one, ZQ, mat, Ya, Ym, w1, g1, g2, v1, r1, r2, ha, hb, hd, run98, q]; exact ⟨rfl, rfl⟩)] | rw [ZW (by simp [lk, Za, Od.v, w1, g1, g2, v1, r1, r2, ha, hb, hd, run98, q]; exact rfl)] | rw [ZS]))
    simp only [Yf, Yq, Za, List.map_cons, List.map_nil, lk, reduceIte, Nat.reduceEqDiff, Option.map_some]
    rw [fin_len2 rfl rfl rfl]
    rfl
  · have q := lt_pos h1
    rw [Yt (X := X) _ b147 _ rfl rfl]; unfold b147
    (repeat (first | rw [ZB] | rw [Ze (by simp [ZN, ZE, ZG, ZH, Zy, Zj, Zw, Zm, Zo, Zb, Zc, Zn, Zz, ZA, ZI, ↓Zl, Zx, Zk, ZF, Zq, Zp, ZZ, ZD, Yk, put, lk, Od.v, Za, Zf, Zu, Yn, Yc, Yd, Ye, Yo, Yl, DV.isU, DV.cells, hget, ZO, Yb, ZP, Zv, splice, DV.one, ZQ, mat, Ya, Ym, w1, g1, g2, v1, r1, r2, ha, hb, hd, run98, q]; exact ⟨rfl, rfl⟩)] | rw [ZR (by simp [lk, Za, Od.v, w1, g1, g2, v1, r1, r2, ha, hb, hd, run98, q]; exact rfl)] | rw [Zq] | rw [Zp] | rw [ZJ] | rw [ZU] | rw [ZK] | rw [ZT] | rw [ZM] | rw [ZL] | rw [ZC] | rw [Zs] | rw [Zt] | rw [Zi (by decide)] | rw [Zr] | rw [Zg] | rw [Zh] | rw [Zd (by decide)] | rw [ZX] | rw [ZV (by simp [ZN, ZE, ZG, ZH, Zy, Zj, Zw, Zm, Zo, Zb, Zc, Zn, Zz, ZA, ZI, ↓Zl, Zx, Zk, ZF, Zq, Zp, ZZ, ZD, Yk, put, lk, Od.v, Za, Zf, Zu, Yn, Yc, Yd, Ye, Yo, Yl, DV.isU, DV.cells, hget, ZO, Yb, ZP, Zv, splice, DV.one, ZQ, mat, Ya, Ym, w1, g1, g2, v1, r1, r2, ha, hb, hd, run98, q]; exact ⟨rfl, rfl⟩)] | rw [ZW (by simp [lk, Za, Od.v, w1, g1, g2, v1, r1, r2, ha, hb, hd, run98, q]; exact rfl)] | rw [ZS]))
    simp only [Yf, Yq, Za, List.map_cons, List.map_nil, lk, reduceIte, Nat.reduceEqDiff, Option.map_some]
    rw [fin_len2 (by rw [hs_len, hs_len]) rfl rfl]
theorem order2_in (d : Array V) (a b s : Nat) : ((Go.Sort.order2 lt d a b s).1 = a ∨ (Go.Sort.order2 lt d a b s).1 = b) ∧ ((Go.Sort.order2 lt d a b s).2.1 = a ∨ (Go.Sort.order2 lt d a b s).2.1 = b) ∧ (Go.Sort.order2 lt d a b s).2.2 ≤ s + 1 := by
  unfold Go.Sort.order2
  split <;> simp
theorem run146 {H : ZY} {r g n a b c s : Nat} (hr : r < H.length) (hn : n ≤ 1000000) (ha : a < n) (hb : b < n) (hc : c < n) (hs' : s ≤ 900) (d : Array V) (hd : d.size = n) :
    E X 146 [rw_ r g n, .int .i64 a, .int .i64 b, .int .i64 c, .ref H.length 0, .func 98 [] []] (hs H r g d s) = some (.int .i64 (Go.Sort.median lt d a b c s).1, hs H r g d (Go.Sort.median lt d a b c s).2) := by
  have i1 := order2_in d a b s
  have e1 := run147 (H := H) (r := r) (g := g) hr hn ha hb (by omega : s ≤ 1000) d hd
  have hm : Go.Sort.median lt d a b c s = ((Go.Sort.order2 lt d (Go.Sort.order2 lt d a b s).1 (Go.Sort.order2 lt d (Go.Sort.order2 lt d a b s).2.1 c (Go.Sort.order2 lt d a b s).2.2).1 (Go.Sort.order2 lt d (Go.Sort.order2 lt d a b s).2.1 c (Go.Sort.order2 lt d a b s).2.2).2.2).2.1, (Go.Sort.order2 lt d (Go.Sort.order2 lt d a b s).1 (Go.Sort.order2 lt d (Go.Sort.order2 lt d a b s).2.1 c (Go.Sort.order2 lt d a b s).2.2).1 (Go.Sort.order2 lt d (Go.Sort.order2 lt d a b s).2.1 c (Go.Sort.order2 lt d a b s).2.2).2.2).2.2) := rfl
  rw [hm]
  generalize Go.Sort.order2 lt d a b s = o1 at e1 i1 ⊢
  obtain ⟨a1, b1, s1⟩ := o1
  simp only at e1 i1 ⊢
  have hb1 : b1 < n := by rcases i1.2.1 with h | h <;> omega
  have ha1 : a1 < n := by rcases i1.1 with h | h <;> omega
  have i2 := order2_in d b1 c s1
  have e2 := run147 (H := H) (r := r) (g := g) hr hn hb1 hc (by omega : s1 ≤ 1000) d hd
  generalize Go.Sort.order2 lt d b1 c s1 = o2 at e2 i2 ⊢
  obtain ⟨b2, c2, s2⟩ := o2
  simp only at e2 i2 ⊢
  have hb2 : b2 < n := by rcases i2.1 with h | h <;> omega
  have i3 := order2_in d a1 b2 s2
  have e3 := run147 (H := H) (r := r) (g := g) hr hn ha1 hb2 (by omega : s2 ≤ 1000) d hd
  generalize Go.Sort.order2 lt d a1 b2 s2 = o3 at e3 i3 ⊢
  obtain ⟨a3, b3, s3⟩ := o3
  simp only at e3 i3 ⊢
  rw [Yt (X := X) _ b146 _ rfl rfl]; unfold b146
  (repeat (first | rw [ZB] | rw [Ze (by simp [ZN, ZE, ZG, ZH, Zy, Zj, Zw, Zm, Zo, Zb, Zc, Zn, Zz, ZA, ZI, ↓Zl, Zx, Zk, ZF, Zq, Zp, ZZ, ZD, Yk, put, lk, Od.v, Za, Zf, Zu, Yn, Yc, Yd, Ye, Yo, Yl, DV.isU, DV.cells, hget, ZO, Yb, ZP, Zv, splice, DV.one, ZQ, mat, Ya, Ym, e1, e2, e3]; exact ⟨rfl, rfl⟩)] | rw [ZR (by simp [lk, Za, Od.v, e1, e2, e3]; exact rfl)] | rw [Zq] | rw [Zp] | rw [ZJ] | rw [ZU] | rw [ZK] | rw [ZT] | rw [ZM] | rw [ZL] | rw [ZC] | rw [Zs] | rw [Zt] | rw [Zi (by decide)] | rw [Zr] | rw [Zg] | rw [Zh] | rw [Zd (by decide)] | rw [ZX] | rw [ZV (by simp [ZN, ZE, ZG, ZH, Zy, Zj, Zw, Zm, Zo, Zb, Zc, Zn, Zz, ZA, ZI, ↓Zl, Zx, Zk, ZF, Zq, Zp, ZZ, ZD, Yk, put, lk, Od.v, Za, Zf, Zu, Yn, Yc, Yd, Ye, Yo, Yl, DV.isU, DV.cells, hget, ZO, Yb, ZP, Zv, splice, DV.one, ZQ, mat, Ya, Ym, e1, e2, e3]; exact ⟨rfl, rfl⟩)] | rw [ZW (by simp [lk, Za, Od.v, e1, e2, e3]; exact rfl)] | rw [ZS]))
  simp only [Yf, Yq, Za, List.map_cons, List.map_nil, lk, reduceIte, Nat.reduceEqDiff, Option.map_some]
  rw [fin_len1 (by rw [hs_len, hs_len]) rfl]
theorem median_in (d : Array V) (a b c s : Nat) : ((Go.Sort.median lt d a b c s).1 = a ∨ (Go.Sort.median lt d a b c s).1 = b ∨ (Go.Sort.median lt d a b c s).1 = c) ∧ (Go.Sort.median lt d a b c s).2 ≤ s + 3 := by
  simp only [Go.Sort.median]
  have i1 := order2_in d a b s
  generalize Go.Sort.order2 lt d a b s = o1 at i1 ⊢
  have i2 := order2_in d o1.2.1 c o1.2.2
  generalize Go.Sort.order2 lt d o1.2.1 c o1.2.2 = o2 at i2 ⊢
  have i3 := order2_in d o1.1 o2.1 o2.2.2
  generalize Go.Sort.order2 lt d o1.1 o2.1 o2.2.2 = o3 at i3 ⊢
  omega
theorem median_bd (d : Array V) {a b c s lo hi : Nat} (ha : lo ≤ a) (ha' : a < hi) (hb : lo ≤ b) (hb' : b < hi) (hc : lo ≤ c) (hc' : c < hi) : lo ≤ (Go.Sort.median lt d a b c s).1 ∧ (Go.Sort.median lt d a b c s).1 < hi ∧ (Go.Sort.median lt d a b c s).2 ≤ s + 3 := by
  have h := median_in d a b c s
  generalize Go.Sort.median lt d a b c s = m at h ⊢
  omega
theorem run145 {H : ZY} {r g n a s : Nat} (hr : r < H.length) (hn : n ≤ 1000000) (ha0 : 1 ≤ a) (ha : a + 1 < n) (hs' : s ≤ 900) (d : Array V) (hd : d.size = n) :
    E X 145 [rw_ r g n, .int .i64 a, .ref H.length 0, .func 98 [] []] (hs H r g d s) = some (.int .i64 (Go.Sort.medianAdjacent lt d a s).1, hs H r g d (Go.Sort.medianAdjacent lt d a s).2) := by
  obtain ⟨p, hp'⟩ : ∃ p, p = a - 1 := ⟨_, rfl⟩
  obtain ⟨q, hq⟩ : ∃ q, q = a + 1 := ⟨_, rfl⟩
  have w1 : IntKind.i64.wrap ((a : Int) - 1) = (p : Int) := (by rw [wrap64 _ (by omega) (by omega)]; omega)
  have w2 : IntKind.i64.wrap ((a : Int) + 1) = (q : Int) := (by rw [wrap64 _ (by omega) (by omega)]; omega)
  have e1 := run146 (H := H) (r := r) (g := g) hr hn (by omega : p < n) (by omega : a < n) (by omega : q < n) hs' d hd
  have hm : Go.Sort.medianAdjacent lt d a s = Go.Sort.median lt d p a q s := by rw [hp', hq]; rfl
  rw [hm]
  rw [Yt (X := X) _ b145 _ rfl rfl]; unfold b145
  (repeat (first | rw [ZB] | rw [Ze (by simp [ZN, ZE, ZG, ZH, Zy, Zj, Zw, Zm, Zo, Zb, Zc, Zn, Zz, ZA, ZI, ↓Zl, Zx, Zk, ZF, Zq, Zp, ZZ, ZD, Yk, put, lk, Od.v, Za, Zf, Zu, Yn, Yc, Yd, Ye, Yo, Yl, DV.isU, DV.cells, hget, ZO, Yb, ZP, Zv, splice, DV.one, ZQ, mat, Ya, Ym, w1, w2, e1]; exact ⟨rfl, rfl⟩)] | rw [ZR (by simp [lk, Za, Od.v, w1, w2, e1]; exact rfl)] | rw [Zq] | rw [Zp] | rw [ZJ] | rw [ZU] | rw [ZK] | rw [ZT] | rw [ZM] | rw [ZL] | rw [ZC] | rw [Zs] | rw [Zt] | rw [Zi (by decide)] | rw [Zr] | rw [Zg] | rw [Zh] | rw [Zd (by decide)] | rw [ZX] | rw [ZV (by simp [ZN, ZE, ZG, ZH, Zy, Zj, Zw, Zm, Zo, Zb, Zc, Zn, Zz, ZA, ZI, ↓Zl, Zx, Zk, ZF, Zq, Zp, ZZ, ZD, Yk, put, lk, Od.v, Za, Zf, Zu, Yn, Yc, Yd, Ye, Yo, Yl, DV.isU, DV.cells, hget, ZO, Yb, ZP, Zv, splice, DV.one, ZQ, mat, Ya, Ym, w1, w2, e1]; exact ⟨rfl, rfl⟩)] | rw [ZW (by simp [lk, Za, Od.v, w1, w2, e1]; exact rfl)] | rw [ZS]))
  simp only [Yf, Yq, Za, List.map_cons, List.map_nil, lk, reduceIte, Nat.reduceEqDiff, Option.map_some]
  rw [fin_len1 (by rw [hs_len, hs_len]) rfl]
def hintN : Go.Sort.Hint → Int
  | .unknown => 0
  | .increasing => 1
  | .decreasing => 2
set_option maxHeartbeats 1000000 in
theorem run134 {H : ZY} {r g n a b : Nat} (hr : r < H.length) (hn : n ≤ 1000000) (hab : a < b) (hb : b ≤ n) (d : Array V) (hd : d.size = n) :
    E X 134 [rw_ r g n, .int .i64 a, .int .i64 b, .func 98 [] []] (hp H r g d) = some (.tup [.int .i64 (Go.Sort.choosePivot lt d a b).1, .int .i64 (hintN (Go.Sort.choosePivot lt d a b).2)], hp H r g d) ∧ a ≤ (Go.Sort.choosePivot lt d a b).1 ∧ (Go.Sort.choosePivot lt d a b).1 < b := by
  obtain ⟨l, hl⟩ : ∃ l, l = b - a := ⟨_, rfl⟩
  obtain ⟨l4, hl4⟩ : ∃ l4, l4 = l / 4 := ⟨_, rfl⟩
  obtain ⟨l42, hl42⟩ : ∃ l42, l42 = l4 * 2 := ⟨_, rfl⟩
  obtain ⟨l43, hl43⟩ : ∃ l43, l43 = l4 * 3 := ⟨_, rfl⟩
  obtain ⟨i, hi⟩ : ∃ i, i = a + l4 := ⟨_, rfl⟩
  obtain ⟨j, hj⟩ : ∃ j, j = a + l42 := ⟨_, rfl⟩
  obtain ⟨k, hk⟩ : ∃ k, k = a + l43 := ⟨_, rfl⟩
  have w1 : IntKind.i64.wrap ((b : Int) - a) = (l : Int) := (by rw [wrap64 _ (by omega) (by omega)]; omega)
  have w2 : IntKind.i64.wrap ((l : Int) / 4) = (l4 : Int) := (by rw [wrap64 _ (by omega) (by omega)]; omega)
  have w3 : IntKind.i64.wrap ((l4 : Int)) = (l4 : Int) := wrap64 _ (by omega) (by omega)
  have w4 : IntKind.i64.wrap ((l4 : Int) * 2) = (l42 : Int) := (by rw [wrap64 _ (by omega) (by omega)]; omega)
  have w5 : IntKind.i64.wrap ((l4 : Int) * 3) = (l43 : Int) := (by rw [wrap64 _ (by omega) (by omega)]; omega)
  have w6 : IntKind.i64.wrap ((a : Int) + l4) = (i : Int) := (by rw [wrap64 _ (by omega) (by omega)]; omega)
  have w7 : IntKind.i64.wrap ((a : Int) + l42) = (j : Int) := (by rw [wrap64 _ (by omega) (by omega)]; omega)
  have w8 : IntKind.i64.wrap ((a : Int) + l43) = (k : Int) := (by rw [wrap64 _ (by omega) (by omega)]; omega)
  have hrl : (hp H r g d).length = H.length := hp_len H r g d
  have hst : ∀ s : Nat, hp H r g d ++ [HO.box 3 [.int .i64 s]] = hs H r g d s := fun s => by
    simp only [hs, hp]; rw [List.set_append_left _ _ hr]
  have hst0 : hp H r g d ++ [HO.box 3 [.int .i64 0]] = hs H r g d 0 := hst 0
  have hg : ∀ s : Nat, (hs H r g d s)[H.length]? = some (.box 3 [.int .i64 s]) := fun s => hs_get g d s hr
  have ht : ∀ s : Nat, (hs H r g d s).take (hp H r g d).length = hp H r g d := fun s => by rw [← hst]; exact List.take_left
  have hdef : Go.Sort.choosePivot lt d a b = (let rr : Nat × Nat := if l ≥ 8 then (if l ≥ 50 then
        Go.Sort.median lt d (Go.Sort.medianAdjacent lt d i 0).1 (Go.Sort.medianAdjacent lt d j (Go.Sort.medianAdjacent lt d i 0).2).1 (Go.Sort.medianAdjacent lt d k (Go.Sort.medianAdjacent lt d j (Go.Sort.medianAdjacent lt d i 0).2).2).1 (Go.Sort.medianAdjacent lt d k (Go.Sort.medianAdjacent lt d j (Go.Sort.medianAdjacent lt d i 0).2).2).2
      else Go.Sort.median lt d i j k 0) else (j, 0)
      (rr.1, if rr.2 = 0 then .increasing else if rr.2 = 12 then .decreasing else .unknown)) := by
    rw [hi, hj, hk, hl42, hl43, hl4, hl]
    simp only [Go.Sort.choosePivot, Nat.mul_one]
  have h0 : (hs H r g d 0)[H.length]? = some (.box 3 [.int .i64 0]) := hs_get g d 0 hr
  have h12 : (hs H r g d 12)[H.length]? = some (.box 3 [.int .i64 12]) := hs_get g d 12 hr
  have fin2' : ∀ (s : Nat) (x y : DV), x.plain = true → y.plain = true → fin (hp H r g d) (hs H r g d s) [x, y] = (.tup [x, y], hp H r g d) := by
    intro s x y hx hy
    rw [← hst]; exact fin2 _ _ hx hy
  rw [hdef]
  by_cases g8 : l < 8
  · have g8' : ¬ 8 ≤ l := by omega
    have i8 : ¬ (8 : Int) ≤ l := by omega
    refine ⟨?_, by simp [g8']; omega, by simp [g8']; omega⟩
    rw [Yt (X := X) _ b134 _ rfl rfl]; unfold b134
    (repeat (first | rw [ZB] | rw [Ze (by simp [ZN, ZE, ZG, ZH, Zy, Zj, Zw, Zm, Zo, Zb, Zc, Zn, Zz, ZA, ZI, ↓Zl, Zx, Zk, ZF, Zq, Zp, ZZ, ZD, Yk, put, lk, Od.v, Za, Zf, Zu, Yn, Yc, Yd, Ye, Yo, Yl, DV.isU, DV.cells, hget, ZO, Yb, ZP, Zv, splice, DV.one, ZQ, mat, Ya, Ym, w1, w2, w3, w4, w5, w6, w7, w8, i8, g8, g8', hrl, hst0, h0]; exact ⟨rfl, rfl⟩)] | rw [ZR (by simp [lk, Za, Od.v, w1, w2, w3, w4, w5, w6, w7, w8, i8, g8, g8', hrl, hst0, h0]; exact rfl)] | rw [Zq] | rw [Zp] | rw [ZJ] | rw [ZU] | rw [ZK] | rw [ZT] | rw [ZM] | rw [ZL] | rw [ZC] | rw [Zs] | rw [Zt] | rw [Zi (by decide)] | rw [Zr] | rw [Zg] | rw [Zh] | rw [Zd (by decide)] | rw [ZX] | rw [ZV (by simp [ZN, ZE, ZG, ZH, Zy, Zj, Zw, Zm, Zo, Zb, Zc, Zn, Zz, ZA, ZI, ↓Zl, Zx, Zk, ZF, Zq, Zp, ZZ, ZD, Yk, put, lk, Od.v, Za, Zf, Zu, Yn, Yc, Yd, Ye, Yo, Yl, DV.isU, DV.cells, hget, ZO, Yb, ZP, Zv, splice, DV.one, ZQ, mat, Ya, Ym, w1, w2, w3, w4, w5, w6, w7, w8, i8, g8, g8', hrl, hst0, h0]; exact ⟨rfl, rfl⟩)] | rw [ZW (by simp [lk, Za, Od.v, w1, w2, w3, w4, w5, w6, w7, w8, i8, g8, g8', hrl, hst0, h0]; exact rfl)] | rw [ZS]))
    simp only [Yf, Yq, Za, List.map_cons, List.map_nil, lk, reduceIte, Nat.reduceEqDiff, Option.map_some]
    rw [fin2' _ _ _ rfl rfl]
    simp [g8', hintN]
  have g8' : 8 ≤ l := by omega
  have i8 : (8 : Int) ≤ l := by omega
  by_cases g50 : l < 50
  · have g50' : ¬ 50 ≤ l := by omega
    have i50 : ¬ (50 : Int) ≤ l := by omega
    have e1 := run146 (H := H) (r := r) (g := g) hr hn (by omega : i < n) (by omega : j < n) (by omega : k < n) (by omega : 0 ≤ 900) d hd
    have i1 := median_bd d (s := 0) (lo := a) (hi := b) (by omega : a ≤ i) (by omega) (by omega : a ≤ j) (by omega) (by omega : a ≤ k) (by omega)
    rw [if_pos g8', if_neg (by omega : ¬ l ≥ 50)]
    generalize Go.Sort.median lt d i j k 0 = m at e1 i1 ⊢
    obtain ⟨p, s⟩ := m
    simp only at e1 i1 ⊢
    refine ⟨?_, by omega, by omega⟩
    have hgs := hg s
    by_cases s0 : s = 0
    · subst s0
      rw [Yt (X := X) _ b134 _ rfl rfl]; unfold b134
      (repeat (first | rw [ZB] | rw [Ze (by simp [ZN, ZE, ZG, ZH, Zy, Zj, Zw, Zm, Zo, Zb, Zc, Zn, Zz, ZA, ZI, ↓Zl, Zx, Zk, ZF, Zq, Zp, ZZ, ZD, Yk, put, lk, Od.v, Za, Zf, Zu, Yn, Yc, Yd, Ye, Yo, Yl, DV.isU, DV.cells, hget, ZO, Yb, ZP, Zv, splice, DV.one, ZQ, mat, Ya, Ym, w1, w2, w3, w4, w5, w6, w7, w8, i8, i50, g8, g8', g50, g50', hrl, hst0, h0, e1]; exact ⟨rfl, rfl⟩)] | rw [ZR (by simp [lk, Za, Od.v, w1, w2, w3, w4, w5, w6, w7, w8, i8, i50, g8, g8', g50, g50', hrl, hst0, h0, e1]; exact rfl)] | rw [Zq] | rw [Zp] | rw [ZJ] | rw [ZU] | rw [ZK] | rw [ZT] | rw [ZM] | rw [ZL] | rw [ZC] | rw [Zs] | rw [Zt] | rw [Zi (by decide)] | rw [Zr] | rw [Zg] | rw [Zh] | rw [Zd (by decide)] | rw [ZX] | rw [ZV (by simp [ZN, ZE, ZG, ZH, Zy, Zj, Zw, Zm, Zo, Zb, Zc, Zn, Zz, ZA, ZI, ↓Zl, Zx, Zk, ZF, Zq, Zp, ZZ, ZD, Yk, put, lk, Od.v, Za, Zf, Zu, Yn, Yc, Yd, Ye, Yo, Yl, DV.isU, DV.cells, hget, ZO, Yb, ZP, Zv, splice, DV.one, ZQ, mat, Ya, Ym, w1, w2, w3, w4, w5, w6, w7, w8, i8, i50, g8, g8', g50, g50', hrl, hst0, h0, e1]; exact ⟨rfl, rfl⟩)] | rw [ZW (by simp [lk, Za, Od.v, w1, w2, w3, w4, w5, w6, w7, w8, i8, i50, g8, g8', g50, g50', hrl, hst0, h0, e1]; exact rfl)] | rw [ZS]))
      simp only [Yf, Yq, Za, List.map_cons, List.map_nil, lk, reduceIte, Nat.reduceEqDiff, Option.map_some]
      rw [fin2' _ _ _ rfl rfl]
      rfl
    have s0' : ((s : Int) == 0) = false := by simpa using s0
    by_cases s1 : s = 12
    · subst s1
      rw [Yt (X := X) _ b134 _ rfl rfl]; unfold b134
      (repeat (first | rw [ZB] | rw [Ze (by simp [ZN, ZE, ZG, ZH, Zy, Zj, Zw, Zm, Zo, Zb, Zc, Zn, Zz, ZA, ZI, ↓Zl, Zx, Zk, ZF, Zq, Zp, ZZ, ZD, Yk, put, lk, Od.v, Za, Zf, Zu, Yn, Yc, Yd, Ye, Yo, Yl, DV.isU, DV.cells, hget, ZO, Yb, ZP, Zv, splice, DV.one, ZQ, mat, Ya, Ym, w1, w2, w3, w4, w5, w6, w7, w8, i8, i50, g8, g8', g50, g50', hrl, hst0, h12, e1]; exact ⟨rfl, rfl⟩)] | rw [ZR (by simp [lk, Za, Od.v, w1, w2, w3, w4, w5, w6, w7, w8, i8, i50, g8, g8', g50, g50', hrl, hst0, h12, e1]; exact rfl)] | rw [Zq] | rw [Zp] | rw [ZJ] | rw [ZU] | rw [ZK] | rw [ZT] | rw [ZM] | rw [ZL] | rw [ZC] | rw [Zs] | rw [Zt] | rw [Zi (by decide)] | rw [Zr] | rw [Zg] | rw [Zh] | rw [Zd (by decide)] | rw [ZX] | rw [ZV (by simp [ZN, ZE, ZG, ZH, Zy, Zj, Zw, Zm, Zo, Zb, Zc, Zn, Zz, ZA, ZI, ↓Zl, Zx, Zk, ZF, Zq, Zp, ZZ, ZD, Yk, put, lk, Od.v, Za, Zf, Zu, Yn, Yc, Yd, Ye, Yo, Yl, DV.isU, DV.cells, hget, ZO, Yb, ZP, Zv, splice, DV.one, ZQ, mat, Ya, Ym, w1, w2, w3, w4, w5, w6, w7, w8, i8, i50, g8, g8', g50, g50', hrl, hst0, h12, e1]; exact ⟨rfl, rfl⟩)] | rw [ZW (by simp [lk, Za, Od.v, w1, w2, w3, w4, w5, w6, w7, w8, i8, i50, g8, g8', g50, g50', hrl, hst0, h12, e1]; exact rfl)] | rw [ZS]))
      simp only [Yf, Yq, Za, List.map_cons, List.map_nil, lk, reduceIte, Nat.reduceEqDiff, Option.map_some]
      rw [fin2' _ _ _ rfl rfl]
      rfl
    have s1' : ((s : Int) == 12) = false := by simp only [beq_eq_false_iff_ne, ne_eq]; omega
    rw [Yt (X := X) _ b134 _ rfl rfl]; unfold b134
    (repeat (first | rw [ZB] | rw [Ze (by simp [ZN, ZE, ZG, ZH, Zy, Zj, Zw, Zm, Zo, Zb, Zc, Zn, Zz, ZA, ZI, ↓Zl, Zx, Zk, ZF, Zq, Zp, ZZ, ZD, Yk, put, lk, Od.v, Za, Zf, Zu, Yn, Yc, Yd, Ye, Yo, Yl, DV.isU, DV.cells, hget, ZO, Yb, ZP, Zv, splice, DV.one, ZQ, mat, Ya, Ym, w1, w2, w3, w4, w5, w6, w7, w8, i8, i50, g8, g8', g50, g50', hrl, hst0, hgs, e1, s0', s1']; exact ⟨rfl, rfl⟩)] | rw [ZR (by simp [lk, Za, Od.v, w1, w2, w3, w4, w5, w6, w7, w8, i8, i50, g8, g8', g50, g50', hrl, hst0, hgs, e1, s0', s1']; exact rfl)] | rw [Zq] | rw [Zp] | rw [ZJ] | rw [ZU] | rw [ZK] | rw [ZT] | rw [ZM] | rw [ZL] | rw [ZC] | rw [Zs] | rw [Zt] | rw [Zi (by decide)] | rw [Zr] | rw [Zg] | rw [Zh] | rw [Zd (by decide)] | rw [ZX] | rw [ZV (by simp [ZN, ZE, ZG, ZH, Zy, Zj, Zw, Zm, Zo, Zb, Zc, Zn, Zz, ZA, ZI, ↓Zl, Zx, Zk, ZF, Zq, Zp, ZZ, ZD, Yk, put, lk, Od.v, Za, Zf, Zu, Yn, Yc, Yd, Ye, Yo, Yl, DV.isU, DV.cells, hget, ZO, Yb, ZP, Zv, splice, DV.one, ZQ, mat, Ya, Ym, w1, w2, w3, w4, w5, w6, w7, w8, i8, i50, g8, g8', g50, g50', hrl, hst0, hgs, e1, s0', s1']; exact ⟨rfl, rfl⟩)] | rw [ZW (by simp [lk, Za, Od.v, w1, w2, w3, w4, w5, w6, w7, w8, i8, i50, g8, g8', g50, g50', hrl, hst0, hgs, e1, s0', s1']; exact rfl)] | rw [ZS]))
    simp only [Yf, Yq, Za, List.map_cons, List.map_nil, lk, reduceIte, Nat.reduceEqDiff, Option.map_some]
    rw [fin2' _ _ _ rfl rfl, if_neg s0, if_neg s1]
    rfl
  · have g50' : 50 ≤ l := by omega
    have i50 : (50 : Int) ≤ l := by omega
    have e1 := run145 (H := H) (r := r) (g := g) (a := i) hr hn (by omega) (by omega) (by omega : 0 ≤ 900) d hd
    have i1 := median_bd d (s := 0) (lo := a) (hi := b) (by omega : a ≤ i - 1) (by omega) (by omega : a ≤ i) (by omega) (by omega : a ≤ i + 1) (by omega)
    rw [if_pos g8', if_pos (by omega : l ≥ 50)]
    have m1 : Go.Sort.medianAdjacent lt d i 0 = Go.Sort.median lt d (i - 1) i (i + 1) 0 := rfl
    rw [← m1] at i1
    generalize Go.Sort.medianAdjacent lt d i 0 = o1 at e1 i1 ⊢
    obtain ⟨p1, s1⟩ := o1
    simp only at e1 i1 ⊢
    have e2 := run145 (H := H) (r := r) (g := g) (a := j) hr hn (by omega) (by omega) (by omega : s1 ≤ 900) d hd
    have i2 := median_bd d (s := s1) (lo := a) (hi := b) (by omega : a ≤ j - 1) (by omega) (by omega : a ≤ j) (by omega) (by omega : a ≤ j + 1) (by omega)
    have m2 : Go.Sort.medianAdjacent lt d j s1 = Go.Sort.median lt d (j - 1) j (j + 1) s1 := rfl
    rw [← m2] at i2
    generalize Go.Sort.medianAdjacent lt d j s1 = o2 at e2 i2 ⊢
    obtain ⟨p2, s2⟩ := o2
    simp only at e2 i2 ⊢
    have e3 := run145 (H := H) (r := r) (g := g) (a := k) hr hn (by omega) (by omega) (by omega : s2 ≤ 900) d hd
    have i3 := median_bd d (s := s2) (lo := a) (hi := b) (by omega : a ≤ k - 1) (by omega) (by omega : a ≤ k) (by omega) (by omega : a ≤ k + 1) (by omega)
    have m3 : Go.Sort.medianAdjacent lt d k s2 = Go.Sort.median lt d (k - 1) k (k + 1) s2 := rfl
    rw [← m3] at i3
    generalize Go.Sort.medianAdjacent lt d k s2 = o3 at e3 i3 ⊢
    obtain ⟨p3, s3⟩ := o3
    simp only at e3 i3 ⊢
    have e4 := run146 (H := H) (r := r) (g := g) hr hn (by omega : p1 < n) (by omega : p2 < n) (by omega : p3 < n) (by omega : s3 ≤ 900) d hd
    have i4 := median_bd d (s := s3) i1.1 i1.2.1 i2.1 i2.2.1 i3.1 i3.2.1
    generalize Go.Sort.median lt d p1 p2 p3 s3 = m at e4 i4 ⊢
    obtain ⟨p, s⟩ := m
    simp only at e4 i4 ⊢
    refine ⟨?_, by omega, by omega⟩
    have hgs := hg s
    by_cases s0 : s = 0
    · subst s0
      rw [Yt (X := X) _ b134 _ rfl rfl]; unfold b134
      (repeat (first | rw [ZB] | rw [Ze (by simp [ZN, ZE, ZG, ZH, Zy, Zj, Zw, Zm, Zo, Zb, Zc, Zn, Zz, ZA, ZI, ↓Zl, Zx, Zk, ZF, Zq, Zp, ZZ, ZD, Yk, put, lk, Od.v, Za, Zf, Zu, Yn, Yc, Yd, Ye, Yo, Yl, DV.isU, DV.cells, hget, ZO, Yb, ZP, Zv, splice, DV.one, ZQ, mat, Ya, Ym, w1, w2, w3, w4, w5, w6, w7, w8, i8, i50, g8, g8', g50, g50', hrl, hst0, h0, e1, e2, e3, e4]; exact ⟨rfl, rfl⟩)] | rw [ZR (by simp [lk, Za, Od.v, w1, w2, w3, w4, w5, w6, w7, w8, i8, i50, g8, g8', g50, g50', hrl, hst0, h0, e1, e2, e3, e4]; exact rfl)] | rw [Zq] | rw [Zp] | rw [ZJ] | rw [ZU] | rw [ZK] | rw [ZT] | rw [ZM] | rw [ZL] | rw [ZC] | rw [Zs] | rw [Zt] | rw [Zi (by decide)] | rw [Zr] | rw [Zg] | rw [Zh] | rw [Zd (by decide)] | rw [ZX] | rw [ZV (by simp [ZN, ZE, ZG, ZH, Zy, Zj, Zw, Zm, Zo, Zb, Zc, Zn, Zz, ZA, ZI, ↓Zl, Zx, Zk, ZF, Zq, Zp, ZZ, ZD, Yk, put, lk, Od.v, Za, Zf, Zu, Yn, Yc, Yd, Ye, Yo, Yl, DV.isU, DV.cells, hget, ZO, Yb, ZP, Zv, splice, DV.one, ZQ, mat, Ya, Ym, w1, w2, w3, w4, w5, w6, w7, w8, i8, i50, g8, g8', g50, g50', hrl, hst0, h0, e1, e2, e3, e4]; exact ⟨rfl, rfl⟩)] | rw [ZW (by simp [lk, Za, Od.v, w1, w2, w3, w4, w5, w6, w7, w8, i8, i50, g8, g8', g50, g50', hrl, hst0, h0, e1, e2, e3, e4]; exact rfl)] | rw [ZS]))
      simp only [Yf, Yq, Za, List.map_cons, List.map_nil, lk, reduceIte, Nat.reduceEqDiff, Option.map_some]
      rw [fin2' _ _ _ rfl rfl]
      rfl
    have s0' : ((s : Int) == 0) = false := by simpa using s0
    by_cases s1 : s = 12
    · subst s1
      rw [Yt (X := X) _ b134 _ rfl rfl]; unfold b134
      (repeat (first | rw [ZB] | rw [Ze (by simp [ZN, ZE, ZG, ZH, Zy, Zj, Zw, Zm, Zo, Zb, Zc, Zn, Zz, ZA, ZI, ↓Zl, Zx, Zk, ZF, Zq, Zp, ZZ, ZD, Yk, put, lk, Od.v, Za, Zf, Zu, Yn, Yc, Yd, Ye, Yo, Yl, DV.isU, DV.cells, hget, ZO, Yb, ZP, Zv, splice, DV.one, ZQ, mat, Ya, Ym, w1, w2, w3, w4, w5, w6, w7, w8, i8, i50, g8, g8', g50, g50', hrl, hst0, h12, e1, e2, e3, e4]; exact ⟨rfl, rfl⟩)] | rw [ZR (by simp [lk, Za, Od.v, w1, w2, w3, w4, w5, w6, w7, w8, i8, i50, g8, g8', g50, g50', hrl, hst0, h12, e1, e2, e3, e4]; exact rfl)] | rw [Zq] | rw [Zp] | rw [ZJ] | rw [ZU] | rw [ZK] | rw [ZT] | rw [ZM] | rw [ZL] | rw [ZC] | rw [Zs] | rw [Zt] | rw [Zi (by decide)] | rw [Zr] | rw [Zg] | rw [Zh] | rw [Zd (by decide)] | rw [ZX] | rw [ZV (by simp [ZN, ZE, ZG, ZH, Zy, Zj, Zw, Zm, Zo, Zb, Zc, Zn, Zz, ZA, ZI, ↓Zl, Zx, Zk, ZF, Zq, Zp, ZZ, ZD, Yk, put, lk, Od.v, Za, Zf, Zu, Yn, Yc, Yd, Ye, Yo, Yl, DV.isU, DV.cells, hget, ZO, Yb, ZP, Zv, splice, DV.one, ZQ, mat, Ya, Ym, w1, w2, w3, w4, w5, w6, w7, w8, i8, i50, g8, g8', g50, g50', hrl, hst0, h12, e1, e2, e3, e4]; exact ⟨rfl, rfl⟩)] | rw [ZW (by simp [lk, Za, Od.v, w1, w2, w3, w4, w5, w6, w7, w8, i8, i50, g8, g8', g50, g50', hrl, hst0, h12, e1, e2, e3, e4]; exact rfl)] | rw [ZS]))
      simp only [Yf, Yq, Za, List.map_cons, List.map_nil, lk, reduceIte, Nat.reduceEqDiff, Option.map_some]
      rw [fin2' _ _ _ rfl rfl]
      rfl
    have s1' : ((s : Int) == 12) = false := by simp only [beq_eq_false_iff_ne, ne_eq]; omega
    rw [Yt (X := X) _ b134 _ rfl rfl]; unfold b134
    (repeat (first | rw [ZB] | rw [Ze (by simp [ZN, ZE, ZG, ZH, Zy, Zj, Zw, Zm, Zo, Zb, Zc, Zn, Zz, ZA, ZI, ↓Zl, Zx, Zk, ZF, Zq, Zp, ZZ, ZD, Yk, put, lk, Od.v, Za, Zf, Zu, Yn, Yc, Yd, Ye, Yo, Yl, DV.isU, DV.cells, hget, ZO, Yb, ZP, Zv, splice, DV.one, ZQ, mat, Ya, Ym, w1, w2, w3, w4, w5, w6, w7, w8, i8, i50, g8, g8', g50, g50', hrl, hst0, hgs, e1, e2, e3, e4, s0', s1']; exact ⟨rfl, rfl⟩)] | rw [ZR (by simp [lk, Za, Od.v, w1, w2, w3, w4, w5, w6, w7, w8, i8, i50, g8, g8', g50, g50', hrl, hst0, hgs, e1, e2, e3, e4, s0', s1']; exact rfl)] | rw [Zq] | rw [Zp] | rw [ZJ] | rw [ZU] | rw [ZK] | rw [ZT] | rw [ZM] | rw [ZL] | rw [ZC] | rw [Zs] | rw [Zt] | rw [Zi (by decide)] | rw [Zr] | rw [Zg] | rw [Zh] | rw [Zd (by decide)] | rw [ZX] | rw [ZV (by simp [ZN, ZE, ZG, ZH, Zy, Zj, Zw, Zm, Zo, Zb, Zc, Zn, Zz, ZA, ZI, ↓Zl, Zx, Zk, ZF, Zq, Zp, ZZ, ZD, Yk, put, lk, Od.v, Za, Zf, Zu, Yn, Yc, Yd, Ye, Yo, Yl, DV.isU, DV.cells, hget, ZO, Yb, ZP, Zv, splice, DV.one, ZQ, mat, Ya, Ym, w1, w2, w3, w4, w5, w6, w7, w8, i8, i50, g8, g8', g50, g50', hrl, hst0, hgs, e1, e2, e3, e4, s0', s1']; exact ⟨rfl, rfl⟩)] | rw [ZW (by simp [lk, Za, Od.v, w1, w2, w3, w4, w5, w6, w7, w8, i8, i50, g8, g8', g50, g50', hrl, hst0, hgs, e1, e2, e3, e4, s0', s1']; exact rfl)] | rw [ZS]))
    simp only [Yf, Yq, Za, List.map_cons, List.map_nil, lk, reduceIte, Nat.reduceEqDiff, Option.map_some]
    rw [fin2' _ _ _ rfl rfl, if_neg s0, if_neg s1]
    rfl
theorem siftDown_size (hi first : Nat) : ∀ (k root : Nat) (d : Array V), hi - root ≤ k → (Go.Sort.siftDown lt hi first root d).size = d.size := by
  intro k
  induction k with
  | zero => intro root d h; rw [siftDown_eq, if_pos (by omega)]
  | succ k ih =>
    intro root d h
    rw [siftDown_eq]
    by_cases h1 : 2 * root + 1 ≥ hi
    · rw [if_pos h1]
    · rw [if_neg h1]
      simp only
      split
      · split
        · rw [ih _ _ (by omega), swp_size]
        · rfl
      · split
        · rw [ih _ _ (by omega), swp_size]
        · rfl
theorem loop132_0 {H : ZY} {r g n hi first : Nat} (hr : r < H.length) (hn : n ≤ 1000000) (hb : first + hi ≤ n) :
    ∀ (k : Nat) (d : Array V), d.size = n → k ≤ hi + 1 → ∃ x y, C X (.loop lp132_0) [(0, rw_ r g n), (3, .func 98 [] []), (8, .int .i64 first), (9, .int .i64 0), (10, .int .i64 hi), (11, .int .i64 ((k : Int) - 1))] (hp H r g d) =
      some (.exit 0, [(0, rw_ r g n), (3, .func 98 [] []), (8, .int .i64 first), (9, .int .i64 0), (10, .int .i64 hi), (11, x), (21, y)], hp H r g (Go.Sort.heapBuild lt hi first k d)) ∧ (Go.Sort.heapBuild lt hi first k d).size = n := by
  intro k
  induction k with
  | zero =>
    intro d hd hk
    rw [Yj]
    unfold lp132_0
    (repeat (first | rw [ZB] | rw [Ze (by simp [ZN, ZE, ZG, ZH, Zy, Zj, Zw, Zm, Zo, Zb, Zc, Zn, Zz, ZA, ZI, ↓Zl, Zx, Zk, ZF, Zq, Zp, ZZ, ZD, Yk, put, lk, Od.v, Za, Zf, Zu, Yn, Yc, Yd, Ye, Yo, Yl, DV.isU, DV.cells, hget, ZO, Yb, ZP, Zv, splice, DV.one, ZQ, mat, Ya, Ym]; exact ⟨rfl, rfl⟩)] | rw [ZR (by simp [lk, Za, Od.v]; exact rfl)] | rw [Zq] | rw [Zp] | rw [ZJ] | rw [ZU] | rw [ZK] | rw [ZT] | rw [ZM] | rw [ZL] | rw [ZC] | rw [Zs] | rw [Zt] | rw [Zi (by decide)] | rw [Zr] | rw [Zg] | rw [Zh] | rw [Zd (by decide)] | rw [ZX] | rw [ZV (by simp [ZN, ZE, ZG, ZH, Zy, Zj, Zw, Zm, Zo, Zb, Zc, Zn, Zz, ZA, ZI, ↓Zl, Zx, Zk, ZF, Zq, Zp, ZZ, ZD, Yk, put, lk, Od.v, Za, Zf, Zu, Yn, Yc, Yd, Ye, Yo, Yl, DV.isU, DV.cells, hget, ZO, Yb, ZP, Zv, splice, DV.one, ZQ, mat, Ya, Ym]; exact ⟨rfl, rfl⟩)] | rw [ZW (by simp [lk, Za, Od.v]; exact rfl)] | rw [ZS]))
    rw [Yr]
    exact ⟨_, _, by simp [Za, lk, Go.Sort.heapBuild]; exact ⟨rfl, rfl⟩, hd⟩
  | succ k ih =>
    intro d hd hk
    rw [show ((k + 1 : Nat) : Int) - 1 = (k : Int) by omega]
    have w1 : IntKind.i64.wrap ((k : Int) - 1) = (k : Int) - 1 := wrap64 _ (by omega) (by omega)
    have e1 := run142 (H := H) (r := r) (g := g) (n := n) (hi := hi) (first := first) (root := k) hr hn hb (by omega) d hd
    have hs : C X lp132_0 [(0, rw_ r g n), (3, .func 98 [] []), (8, .int .i64 first), (9, .int .i64 0), (10, .int .i64 hi), (11, .int .i64 k)] (hp H r g d) = some (.norm, [(0, rw_ r g n), (3, .func 98 [] []), (8, .int .i64 first), (9, .int .i64 0), (10, .int .i64 hi), (11, .int .i64 ((k : Int) - 1))], hp H r g (Go.Sort.siftDown lt hi first k d)) := by
      unfold lp132_0
      (repeat (first | rw [ZB] | rw [Ze (by simp [ZN, ZE, ZG, ZH, Zy, Zj, Zw, Zm, Zo, Zb, Zc, Zn, Zz, ZA, ZI, ↓Zl, Zx, Zk, ZF, Zq, Zp, ZZ, ZD, Yk, put, lk, Od.v, Za, Zf, Zu, Yn, Yc, Yd, Ye, Yo, Yl, DV.isU, DV.cells, hget, ZO, Yb, ZP, Zv, splice, DV.one, ZQ, mat, Ya, Ym, w1, e1]; exact ⟨rfl, rfl⟩)] | rw [ZR (by simp [lk, Za, Od.v, w1, e1]; exact rfl)] | rw [Zq] | rw [Zp] | rw [ZJ] | rw [ZU] | rw [ZK] | rw [ZT] | rw [ZM] | rw [ZL] | rw [ZC] | rw [Zs] | rw [Zt] | rw [Zi (by decide)] | rw [Zr] | rw [Zg] | rw [Zh] | rw [Zd (by decide)] | rw [ZX] | rw [ZV (by simp [ZN, ZE, ZG, ZH, Zy, Zj, Zw, Zm, Zo, Zb, Zc, Zn, Zz, ZA, ZI, ↓Zl, Zx, Zk, ZF, Zq, Zp, ZZ, ZD, Yk, put, lk, Od.v, Za, Zf, Zu, Yn, Yc, Yd, Ye, Yo, Yl, DV.isU, DV.cells, hget, ZO, Yb, ZP, Zv, splice, DV.one, ZQ, mat, Ya, Ym, w1, e1]; exact ⟨rfl, rfl⟩)] | rw [ZW (by simp [lk, Za, Od.v, w1, e1]; exact rfl)] | rw [ZS]))
      simp [Za, lk]
    rw [Yj, hs, Yu, Go.Sort.heapBuild]
    exact ih _ (by rw [siftDown_size hi first hi k d (by omega), hd]) (by omega)
theorem loop132_1 {H : ZY} {r g n first : Nat} (hr : r < H.length) (hn : n ≤ 1000000) :
    ∀ (k : Nat) (d : Array V), d.size = n → first + k ≤ n → ∃ e', C X (.loop lp132_1) [(0, rw_ r g n), (3, .func 98 [] []), (8, .int .i64 first), (9, .int .i64 0), (12, .int .i64 ((k : Int) - 1))] (hp H r g d) =
      some (.exit 2, e', hp H r g (Go.Sort.heapPop lt first k d)) := by
  intro k
  induction k with
  | zero =>
    intro d hd hk
    rw [Yj]
    unfold lp132_1
    (repeat (first | rw [ZB] | rw [Ze (by simp [ZN, ZE, ZG, ZH, Zy, Zj, Zw, Zm, Zo, Zb, Zc, Zn, Zz, ZA, ZI, ↓Zl, Zx, Zk, ZF, Zq, Zp, ZZ, ZD, Yk, put, lk, Od.v, Za, Zf, Zu, Yn, Yc, Yd, Ye, Yo, Yl, DV.isU, DV.cells, hget, ZO, Yb, ZP, Zv, splice, DV.one, ZQ, mat, Ya, Ym]; exact ⟨rfl, rfl⟩)] | rw [ZR (by simp [lk, Za, Od.v]; exact rfl)] | rw [Zq] | rw [Zp] | rw [ZJ] | rw [ZU] | rw [ZK] | rw [ZT] | rw [ZM] | rw [ZL] | rw [ZC] | rw [Zs] | rw [Zt] | rw [Zi (by decide)] | rw [Zr] | rw [Zg] | rw [Zh] | rw [Zd (by decide)] | rw [ZX] | rw [ZV (by simp [ZN, ZE, ZG, ZH, Zy, Zj, Zw, Zm, Zo, Zb, Zc, Zn, Zz, ZA, ZI, ↓Zl, Zx, Zk, ZF, Zq, Zp, ZZ, ZD, Yk, put, lk, Od.v, Za, Zf, Zu, Yn, Yc, Yd, Ye, Yo, Yl, DV.isU, DV.cells, hget, ZO, Yb, ZP, Zv, splice, DV.one, ZQ, mat, Ya, Ym]; exact ⟨rfl, rfl⟩)] | rw [ZW (by simp [lk, Za, Od.v]; exact rfl)] | rw [ZS]))
    rw [Yr]
    exact ⟨_, rfl⟩
  | succ k ih =>
    intro d hd hk
    rw [show ((k + 1 : Nat) : Int) - 1 = (k : Int) by omega]
    obtain ⟨b, hb⟩ : ∃ b, b = first + k := ⟨_, rfl⟩
    have w1 : IntKind.i64.wrap ((k : Int) - 1) = (k : Int) - 1 := wrap64 _ (by omega) (by omega)
    have w2 : IntKind.i64.wrap ((first : Int) + k) = (b : Int) := (by rw [wrap64 _ (by omega) (by omega)]; omega)
    have u1 : first < n := by omega
    have u2 : b < n := by omega
    have e1 := run142 (H := H) (r := r) (g := g) (n := n) (hi := k) (first := first) (root := 0) hr hn (by omega) (by omega) (Go.Sort.swp d first b) (by rw [swp_size, hd])
    rw [show ((0 : Nat) : Int) = 0 from rfl] at e1
    have hs : C X lp132_1 [(0, rw_ r g n), (3, .func 98 [] []), (8, .int .i64 first), (9, .int .i64 0), (12, .int .i64 k)] (hp H r g d) = some (.norm, [(0, rw_ r g n), (3, .func 98 [] []), (8, .int .i64 first), (9, .int .i64 0), (12, .int .i64 ((k : Int) - 1))], hp H r g (Go.Sort.siftDown lt k first 0 (Go.Sort.swp d first b))) := by
      unfold lp132_1
      rw [swp_upd] at *
      (repeat (first | rw [ZB] | rw [Ze (by simp [ZN, ZE, ZG, ZH, Zy, Zj, Zw, Zm, Zo, Zb, Zc, Zn, Zz, ZA, ZI, ↓Zl, Zx, Zk, ZF, Zq, Zp, ZZ, ZD, Yk, put, lk, Od.v, Za, Zf, Zu, Yn, Yc, Yd, Ye, Yo, Yl, DV.isU, DV.cells, hget, ZO, Yb, ZP, Zv, splice, DV.one, ZQ, mat, Ya, Ym, w1, w2, e1, u1, u2, hr, hd, Yy, rdS, wrS, Yh]; exact ⟨rfl, rfl⟩)] | rw [ZR (by simp [lk, Za, Od.v, w1, w2, e1, u1, u2, hr, hd, Yy, rdS, wrS, Yh]; exact rfl)] | rw [Zq] | rw [Zp] | rw [ZJ] | rw [ZU] | rw [ZK] | rw [ZT] | rw [ZM] | rw [ZL] | rw [ZC] | rw [Zs] | rw [Zt] | rw [Zi (by decide)] | rw [Zr] | rw [Zg] | rw [Zh] | rw [Zd (by decide)] | rw [ZX] | rw [ZV (by simp [ZN, ZE, ZG, ZH, Zy, Zj, Zw, Zm, Zo, Zb, Zc, Zn, Zz, ZA, ZI, ↓Zl, Zx, Zk, ZF, Zq, Zp, ZZ, ZD, Yk, put, lk, Od.v, Za, Zf, Zu, Yn, Yc, Yd, Ye, Yo, Yl, DV.isU, DV.cells, hget, ZO, Yb, ZP, Zv, splice, DV.one, ZQ, mat, Ya, Ym, w1, w2, e1, u1, u2, hr, hd, Yy, rdS, wrS, Yh]; exact ⟨rfl, rfl⟩)] | rw [ZW (by simp [lk, Za, Od.v, w1, w2, e1, u1, u2, hr, hd, Yy, rdS, wrS, Yh]; exact rfl)] | rw [ZS]))
      simp [Za, lk]
    rw [Yj, hs, Yu, Go.Sort.heapPop, ← hb]
    exact ih _ (by rw [siftDown_size k first k 0 _ (by omega), swp_size, hd]) (by omega)
theorem run132 {H : ZY} {r g n a b : Nat} (hr : r < H.length) (hn : n ≤ 1000000) (hab : a < b) (hb : b ≤ n) (d : Array V) (hd : d.size = n) :
    E X 132 [rw_ r g n, .int .i64 a, .int .i64 b, .func 98 [] []] (hp H r g d) = some (.tup [], hp H r g (Go.Sort.heapSort lt d a b)) := by
  obtain ⟨l, hl⟩ : ∃ l, l = b - a := ⟨_, rfl⟩
  obtain ⟨k, hk⟩ : ∃ k, k = (l - 1) / 2 + 1 := ⟨_, rfl⟩
  obtain ⟨m, hm⟩ : ∃ m, m = l - 1 := ⟨_, rfl⟩
  obtain ⟨x, y, c1, c2⟩ := loop132_0 (H := H) (r := r) (g := g) (n := n) (hi := l) (first := a) hr hn (by omega) k d hd (by omega)
  obtain ⟨e', c3⟩ := loop132_1 (H := H) (r := r) (g := g) (n := n) (first := a) hr hn l _ c2 (by omega)
  have hdef : Go.Sort.heapSort lt d a b = Go.Sort.heapPop lt a l (Go.Sort.heapBuild lt l a k d) := by rw [Go.Sort.heapSort, hk, hl]
  rw [hdef]
  have w1 : IntKind.i64.wrap ((b : Int) - a) = (l : Int) := (by rw [wrap64 _ (by omega) (by omega)]; omega)
  have w2 : IntKind.i64.wrap ((l : Int) - 1) = (m : Int) := (by rw [wrap64 _ (by omega) (by omega)]; omega)
  have w3 : IntKind.i64.wrap ((m : Int) / 2) = (k : Int) - 1 := (by rw [wrap64 _ (by omega) (by omega)]; omega)
  have w4 : (l : Int) - 1 = (m : Int) := by omega
  rw [w4] at c3
  rw [Yt (X := X) _ b132 _ rfl rfl]; unfold b132
  (repeat (first | rw [ZB] | rw [Ze (by simp [ZN, ZE, ZG, ZH, Zy, Zj, Zw, Zm, Zo, Zb, Zc, Zn, Zz, ZA, ZI, ↓Zl, Zx, Zk, ZF, Zq, Zp, ZZ, ZD, Yk, put, lk, Od.v, Za, Zf, Zu, Yn, Yc, Yd, Ye, Yo, Yl, DV.isU, DV.cells, hget, ZO, Yb, ZP, Zv, splice, DV.one, ZQ, mat, Ya, Ym, w1, w2, w3]; exact ⟨rfl, rfl⟩)] | rw [ZR (by simp [lk, Za, Od.v, w1, w2, w3]; exact rfl)] | rw [Zq] | rw [Zp] | rw [ZJ] | rw [ZU] | rw [ZK] | rw [ZT] | rw [ZM] | rw [ZL] | rw [ZC] | rw [Zs] | rw [Zt] | rw [Zi (by decide)] | rw [Zr] | rw [Zg] | rw [Zh] | rw [Zd (by decide)] | rw [ZX] | rw [ZV (by simp [ZN, ZE, ZG, ZH, Zy, Zj, Zw, Zm, Zo, Zb, Zc, Zn, Zz, ZA, ZI, ↓Zl, Zx, Zk, ZF, Zq, Zp, ZZ, ZD, Yk, put, lk, Od.v, Za, Zf, Zu, Yn, Yc, Yd, Ye, Yo, Yl, DV.isU, DV.cells, hget, ZO, Yb, ZP, Zv, splice, DV.one, ZQ, mat, Ya, Ym, w1, w2, w3]; exact ⟨rfl, rfl⟩)] | rw [ZW (by simp [lk, Za, Od.v, w1, w2, w3]; exact rfl)] | rw [ZS]))
  (try simp only [Za, List.map_cons, List.map_nil, lk, reduceIte, Nat.reduceEqDiff, Nat.zero_ne_one, Nat.one_ne_zero])
  rw [c1]
  (repeat (first | rw [ZB] | rw [Ze (by simp [ZN, ZE, ZG, ZH, Zy, Zj, Zw, Zm, Zo, Zb, Zc, Zn, Zz, ZA, ZI, ↓Zl, Zx, Zk, ZF, Zq, Zp, ZZ, ZD, Yk, put, lk, Od.v, Za, Zf, Zu, Yn, Yc, Yd, Ye, Yo, Yl, DV.isU, DV.cells, hget, ZO, Yb, ZP, Zv, splice, DV.one, ZQ, mat, Ya, Ym, w1, w2, w3]; exact ⟨rfl, rfl⟩)] | rw [ZR (by simp [lk, Za, Od.v, w1, w2, w3]; exact rfl)] | rw [Zq] | rw [Zp] | rw [ZJ] | rw [ZU] | rw [ZK] | rw [ZT] | rw [ZM] | rw [ZL] | rw [ZC] | rw [Zs] | rw [Zt] | rw [Zi (by decide)] | rw [Zr] | rw [Zg] | rw [Zh] | rw [Zd (by decide)] | rw [ZX] | rw [ZV (by simp [ZN, ZE, ZG, ZH, Zy, Zj, Zw, Zm, Zo, Zb, Zc, Zn, Zz, ZA, ZI, ↓Zl, Zx, Zk, ZF, Zq, Zp, ZZ, ZD, Yk, put, lk, Od.v, Za, Zf, Zu, Yn, Yc, Yd, Ye, Yo, Yl, DV.isU, DV.cells, hget, ZO, Yb, ZP, Zv, splice, DV.one, ZQ, mat, Ya, Ym, w1, w2, w3]; exact ⟨rfl, rfl⟩)] | rw [ZW (by simp [lk, Za, Od.v, w1, w2, w3]; exact rfl)] | rw [ZS]))
  (try simp only [Za, List.map_cons, List.map_nil, lk, reduceIte, Nat.reduceEqDiff, Nat.zero_ne_one, Nat.one_ne_zero])
  rw [c3]
  (repeat (first | rw [ZB] | rw [Ze (by simp [ZN, ZE, ZG, ZH, Zy, Zj, Zw, Zm, Zo, Zb, Zc, Zn, Zz, ZA, ZI, ↓Zl, Zx, Zk, ZF, Zq, Zp, ZZ, ZD, Yk, put, lk, Od.v, Za, Zf, Zu, Yn, Yc, Yd, Ye, Yo, Yl, DV.isU, DV.cells, hget, ZO, Yb, ZP, Zv, splice, DV.one, ZQ, mat, Ya, Ym]; exact ⟨rfl, rfl⟩)] | rw [ZR (by simp [lk, Za, Od.v]; exact rfl)] | rw [Zq] | rw [Zp] | rw [ZJ] | rw [ZU] | rw [ZK] | rw [ZT] | rw [ZM] | rw [ZL] | rw [ZC] | rw [Zs] | rw [Zt] | rw [Zi (by decide)] | rw [Zr] | rw [Zg] | rw [Zh] | rw [Zd (by decide)] | rw [ZX] | rw [ZV (by simp [ZN, ZE, ZG, ZH, Zy, Zj, Zw, Zm, Zo, Zb, Zc, Zn, Zz, ZA, ZI, ↓Zl, Zx, Zk, ZF, Zq, Zp, ZZ, ZD, Yk, put, lk, Od.v, Za, Zf, Zu, Yn, Yc, Yd, Ye, Yo, Yl, DV.isU, DV.cells, hget, ZO, Yb, ZP, Zv, splice, DV.one, ZQ, mat, Ya, Ym]; exact ⟨rfl, rfl⟩)] | rw [ZW (by simp [lk, Za, Od.v]; exact rfl)] | rw [ZS]))
  simp [Yg, Yq, fin_hp]
theorem loop135 {H : ZY} {r g n : Nat} (hr : r < H.length) (hn : n ≤ 1000000) :
    ∀ (k i j : Nat) (d : Array V), j - i ≤ k → d.size = n → j < n → i ≤ j + 1 → ∃ e', C X (.loop lp135_0) [(0, rw_ r g n), (8, .int .i64 i), (9, .int .i64 j)] (hp H r g d) =
      some (.exit 0, e', hp H r g (Go.Sort.reverseLoop i j d)) := by
  intro k
  induction k with
  | zero =>
    intro i j d hk hd hj hi
    have w0 : ¬ i < j := by omega
    rw [Yj]
    unfold lp135_0
    (repeat (first | rw [ZB] | rw [Ze (by simp [ZN, ZE, ZG, ZH, Zy, Zj, Zw, Zm, Zo, Zb, Zc, Zn, Zz, ZA, ZI, ↓Zl, Zx, Zk, ZF, Zq, Zp, ZZ, ZD, Yk, put, lk, Od.v, Za, Zf, Zu, Yn, Yc, Yd, Ye, Yo, Yl, DV.isU, DV.cells, hget, ZO, Yb, ZP, Zv, splice, DV.one, ZQ, mat, Ya, Ym, w0]; exact ⟨rfl, rfl⟩)] | rw [ZR (by simp [lk, Za, Od.v, w0]; exact rfl)] | rw [Zq] | rw [Zp] | rw [ZJ] | rw [ZU] | rw [ZK] | rw [ZT] | rw [ZM] | rw [ZL] | rw [ZC] | rw [Zs] | rw [Zt] | rw [Zi (by decide)] | rw [Zr] | rw [Zg] | rw [Zh] | rw [Zd (by decide)] | rw [ZX] | rw [ZV (by simp [ZN, ZE, ZG, ZH, Zy, Zj, Zw, Zm, Zo, Zb, Zc, Zn, Zz, ZA, ZI, ↓Zl, Zx, Zk, ZF, Zq, Zp, ZZ, ZD, Yk, put, lk, Od.v, Za, Zf, Zu, Yn, Yc, Yd, Ye, Yo, Yl, DV.isU, DV.cells, hget, ZO, Yb, ZP, Zv, splice, DV.one, ZQ, mat, Ya, Ym, w0]; exact ⟨rfl, rfl⟩)] | rw [ZW (by simp [lk, Za, Od.v, w0]; exact rfl)] | rw [ZS]))
    rw [Yr, Go.Sort.reverseLoop, if_neg w0]
    exact ⟨_, rfl⟩
  | succ k ih =>
    intro i j d hk hd hj hi
    by_cases w0 : i < j
    · obtain ⟨I, hI⟩ : ∃ I, I = i + 1 := ⟨_, rfl⟩
      obtain ⟨J, hJ⟩ : ∃ J, J = j - 1 := ⟨_, rfl⟩
      have w1 : IntKind.i64.wrap ((i : Int) + 1) = (I : Int) := (by rw [wrap64 _ (by omega) (by omega)]; omega)
      have w2 : IntKind.i64.wrap ((j : Int) - 1) = (J : Int) := (by rw [wrap64 _ (by omega) (by omega)]; omega)
      have u1 : i < n := by omega
      have hs : C X lp135_0 [(0, rw_ r g n), (8, .int .i64 i), (9, .int .i64 j)] (hp H r g d) = some (.norm, [(0, rw_ r g n), (8, .int .i64 I), (9, .int .i64 J)], hp H r g (Go.Sort.swp d i j)) := by
        unfold lp135_0
        rw [swp_upd]
        (repeat (first | rw [ZB] | rw [Ze (by simp [ZN, ZE, ZG, ZH, Zy, Zj, Zw, Zm, Zo, Zb, Zc, Zn, Zz, ZA, ZI, ↓Zl, Zx, Zk, ZF, Zq, Zp, ZZ, ZD, Yk, put, lk, Od.v, Za, Zf, Zu, Yn, Yc, Yd, Ye, Yo, Yl, DV.isU, DV.cells, hget, ZO, Yb, ZP, Zv, splice, DV.one, ZQ, mat, Ya, Ym, w0, w1, w2, u1, hj, hr, hd, Yy, rdS, wrS, Yh]; exact ⟨rfl, rfl⟩)] | rw [ZR (by simp [lk, Za, Od.v, w0, w1, w2, u1, hj, hr, hd, Yy, rdS, wrS, Yh]; exact rfl)] | rw [Zq] | rw [Zp] | rw [ZJ] | rw [ZU] | rw [ZK] | rw [ZT] | rw [ZM] | rw [ZL] | rw [ZC] | rw [Zs] | rw [Zt] | rw [Zi (by decide)] | rw [Zr] | rw [Zg] | rw [Zh] | rw [Zd (by decide)] | rw [ZX] | rw [ZV (by simp [ZN, ZE, ZG, ZH, Zy, Zj, Zw, Zm, Zo, Zb, Zc, Zn, Zz, ZA, ZI, ↓Zl, Zx, Zk, ZF, Zq, Zp, ZZ, ZD, Yk, put, lk, Od.v, Za, Zf, Zu, Yn, Yc, Yd, Ye, Yo, Yl, DV.isU, DV.cells, hget, ZO, Yb, ZP, Zv, splice, DV.one, ZQ, mat, Ya, Ym, w0, w1, w2, u1, hj, hr, hd, Yy, rdS, wrS, Yh]; exact ⟨rfl, rfl⟩)] | rw [ZW (by simp [lk, Za, Od.v, w0, w1, w2, u1, hj, hr, hd, Yy, rdS, wrS, Yh]; exact rfl)] | rw [ZS]))
        simp [Za, lk]
      rw [Yj, hs, Yu, Go.Sort.reverseLoop, if_pos w0, ← hI, ← hJ]
      exact ih I J _ (by omega) (by rw [swp_size, hd]) (by omega) (by omega)
    · exact ih i j d (by omega) hd hj hi
theorem run135 {H : ZY} {r g n a b : Nat} (hr : r < H.length) (hn : n ≤ 1000000) (hab : a < b) (hb : b ≤ n) (d : Array V) (hd : d.size = n) :
    E X 135 [rw_ r g n, .int .i64 a, .int .i64 b, .func 98 [] []] (hp H r g d) = some (.tup [], hp H r g (Go.Sort.reverseRange d a b)) := by
  obtain ⟨j, hj⟩ : ∃ j, j = b - 1 := ⟨_, rfl⟩
  have w1 : IntKind.i64.wrap ((b : Int) - 1) = (j : Int) := (by rw [wrap64 _ (by omega) (by omega)]; omega)
  obtain ⟨e', c1⟩ := loop135 (H := H) (r := r) (g := g) (n := n) hr hn n a j d (by omega) hd (by omega) (by omega)
  rw [Go.Sort.reverseRange, ← hj]
  rw [Yt (X := X) _ b135 _ rfl rfl]; unfold b135
  (repeat (first | rw [ZB] | rw [Ze (by simp [ZN, ZE, ZG, ZH, Zy, Zj, Zw, Zm, Zo, Zb, Zc, Zn, Zz, ZA, ZI, ↓Zl, Zx, Zk, ZF, Zq, Zp, ZZ, ZD, Yk, put, lk, Od.v, Za, Zf, Zu, Yn, Yc, Yd, Ye, Yo, Yl, DV.isU, DV.cells, hget, ZO, Yb, ZP, Zv, splice, DV.one, ZQ, mat, Ya, Ym, w1]; exact ⟨rfl, rfl⟩)] | rw [ZR (by simp [lk, Za, Od.v, w1]; exact rfl)] | rw [Zq] | rw [Zp] | rw [ZJ] | rw [ZU] | rw [ZK] | rw [ZT] | rw [ZM] | rw [ZL] | rw [ZC] | rw [Zs] | rw [Zt] | rw [Zi (by decide)] | rw [Zr] | rw [Zg] | rw [Zh] | rw [Zd (by decide)] | rw [ZX] | rw [ZV (by simp [ZN, ZE, ZG, ZH, Zy, Zj, Zw, Zm, Zo, Zb, Zc, Zn, Zz, ZA, ZI, ↓Zl, Zx, Zk, ZF, Zq, Zp, ZZ, ZD, Yk, put, lk, Od.v, Za, Zf, Zu, Yn, Yc, Yd, Ye, Yo, Yl, DV.isU, DV.cells, hget, ZO, Yb, ZP, Zv, splice, DV.one, ZQ, mat, Ya, Ym, w1]; exact ⟨rfl, rfl⟩)] | rw [ZW (by simp [lk, Za, Od.v, w1]; exact rfl)] | rw [ZS]))
  (try simp only [Za, List.map_cons, List.map_nil, lk, reduceIte, Nat.reduceEqDiff, Nat.zero_ne_one, Nat.one_ne_zero])
  rw [c1]
  (repeat (first | rw [ZB] | rw [Ze (by simp [ZN, ZE, ZG, ZH, Zy, Zj, Zw, Zm, Zo, Zb, Zc, Zn, Zz, ZA, ZI, ↓Zl, Zx, Zk, ZF, Zq, Zp, ZZ, ZD, Yk, put, lk, Od.v, Za, Zf, Zu, Yn, Yc, Yd, Ye, Yo, Yl, DV.isU, DV.cells, hget, ZO, Yb, ZP, Zv, splice, DV.one, ZQ, mat, Ya, Ym]; exact ⟨rfl, rfl⟩)] | rw [ZR (by simp [lk, Za, Od.v]; exact rfl)] | rw [Zq] | rw [Zp] | rw [ZJ] | rw [ZU] | rw [ZK] | rw [ZT] | rw [ZM] | rw [ZL] | rw [ZC] | rw [Zs] | rw [Zt] | rw [Zi (by decide)] | rw [Zr] | rw [Zg] | rw [Zh] | rw [Zd (by decide)] | rw [ZX] | rw [ZV (by simp [ZN, ZE, ZG, ZH, Zy, Zj, Zw, Zm, Zo, Zb, Zc, Zn, Zz, ZA, ZI, ↓Zl, Zx, Zk, ZF, Zq, Zp, ZZ, ZD, Yk, put, lk, Od.v, Za, Zf, Zu, Yn, Yc, Yd, Ye, Yo, Yl, DV.isU, DV.cells, hget, ZO, Yb, ZP, Zv, splice, DV.one, ZQ, mat, Ya, Ym]; exact ⟨rfl, rfl⟩)] | rw [ZW (by simp [lk, Za, Od.v]; exact rfl)] | rw [ZS]))
  simp [Yg, Yq, fin_hp]
theorem shl_u (x : UInt64) (k : Nat) (hk : k < 64) : IntKind.u64.wrap ((x.toNat : Int) * 2 ^ min k IntKind.u64.bits) = ((x <<< (UInt64.ofNat k)).toNat : Int) := by
  rw [show min k IntKind.u64.bits = k from Nat.min_eq_left (by simp [IntKind.bits]; omega), show (x.toNat : Int) * 2 ^ k = ((x.toNat * 2 ^ k : Nat) : Int) by simp, wrapu]
  rw [UInt64.toNat_shiftLeft, UInt64.toNat_ofNat', Nat.mod_eq_of_lt (by omega : k < 2 ^ 64), Nat.mod_eq_of_lt hk, Nat.shiftLeft_eq]
theorem shr_u (x : UInt64) (k : Nat) (hk : k < 64) : (x.toNat : Int).fdiv (2 ^ min k IntKind.u64.bits) = ((x >>> (UInt64.ofNat k)).toNat : Int) := by
  rw [show min k IntKind.u64.bits = k from Nat.min_eq_left (by simp [IntKind.bits]; omega)]
  rw [UInt64.toNat_shiftRight, UInt64.toNat_ofNat', Nat.mod_eq_of_lt (by omega : k < 2 ^ 64), Nat.mod_eq_of_lt hk, Nat.shiftRight_eq_div_pow]
  rw [Int.fdiv_eq_ediv_of_nonneg _ (Int.pow_nonneg (by omega))]
  simp
theorem xor_u (x y : UInt64) : IntKind.u64.wrap ((x.toNat % 2 ^ IntKind.u64.bits ^^^ y.toNat % 2 ^ IntKind.u64.bits : Nat) : Int) = ((x ^^^ y).toNat : Int) := by
  have hb : 2 ^ IntKind.u64.bits = 18446744073709551616 := rfl
  have h1 := x.toNat_lt
  have h2 := y.toNat_lt
  rw [hb, Nat.mod_eq_of_lt h1, Nat.mod_eq_of_lt h2, wrapu, UInt64.toNat_xor, Nat.mod_eq_of_lt]
  exact Nat.xor_lt_two_pow (n := 64) h1 h2
theorem and_u (x : UInt64) (m : Nat) (hm : m < 18446744073709551616) : IntKind.u64.wrap ((x.toNat % 2 ^ IntKind.u64.bits &&& m % 2 ^ IntKind.u64.bits : Nat) : Int) = ((x.toNat &&& m : Nat) : Int) := by
  have hb : 2 ^ IntKind.u64.bits = 18446744073709551616 := rfl
  have h1 := x.toNat_lt
  rw [hb, Nat.mod_eq_of_lt h1, Nat.mod_eq_of_lt hm, wrapu, Nat.mod_eq_of_lt]
  exact Nat.lt_of_le_of_lt Nat.and_le_right hm
theorem pow_u (k : Nat) (hk : k < 64) : IntKind.u64.wrap (2 ^ min k IntKind.u64.bits) = ((1 <<< k : Nat) : Int) := by
  rw [show min k IntKind.u64.bits = k from Nat.min_eq_left (by simp [IntKind.bits]; omega), show (2 : Int) ^ k = ((2 ^ k : Nat) : Int) by simp, wrapu, Nat.one_shiftLeft, Nat.mod_eq_of_lt]
  exact Nat.pow_lt_pow_right (by omega : 1 < 2) hk
theorem run144 {h : ZY} {q t : Nat} (x : UInt64) (hq : h[q]? = some (.box t [.int .u64 x.toNat])) : E X 144 [.ref q 0] h = some (.int .u64 (Go.Sort.xorNext x).toNat, h.set q (.box t [.int .u64 (Go.Sort.xorNext x).toNat])) := by
  have hl : q < h.length := (List.getElem?_eq_some_iff.1 hq).1
  have a1 := shl_u x 13 (by omega)
  have a2 := xor_u x (x <<< UInt64.ofNat 13)
  obtain ⟨y, hy⟩ : ∃ y, y = x ^^^ (x <<< UInt64.ofNat 13) := ⟨_, rfl⟩
  rw [← hy] at a2
  have b1 := shr_u y 7 (by omega)
  have b2 := xor_u y (y >>> UInt64.ofNat 7)
  obtain ⟨z, hz⟩ : ∃ z, z = y ^^^ (y >>> UInt64.ofNat 7) := ⟨_, rfl⟩
  rw [← hz] at b2
  have c1 := shl_u z 17 (by omega)
  have c2 := xor_u z (z <<< UInt64.ofNat 17)
  have hdef : Go.Sort.xorNext x = z ^^^ (z <<< UInt64.ofNat 17) := by rw [hz, hy]; rfl
  rw [← hdef] at c2
  generalize Go.Sort.xorNext x = w at c2 ⊢
  generalize x <<< UInt64.ofNat 13 = x' at a1 a2
  generalize y >>> UInt64.ofNat 7 = y' at b1 b2
  generalize z <<< UInt64.ofNat 17 = z' at c1 c2
  have g1 : ∀ B : HO, (h.set q B)[q]? = some B := fun B => List.getElem?_set_self hl
  have g2 : ∀ B B' : HO, (h.set q B).set q B' = h.set q B' := fun B B' => List.set_set ..
  rw [Yt (X := X) _ b144 _ rfl rfl]; unfold b144
  (repeat (first | rw [ZB] | rw [Ze (by simp [ZN, ZE, ZG, ZH, Zy, Zj, Zw, Zm, Zo, Zb, Zc, Zn, Zz, ZA, ZI, ↓Zl, Zx, Zk, ZF, Zq, Zp, ZZ, ZD, Yk, put, lk, Od.v, Za, Zf, Zu, Yn, Yc, Yd, Ye, Yo, Yl, DV.isU, DV.cells, hget, ZO, Yb, ZP, Zv, splice, DV.one, ZQ, mat, Ya, Ym, hq, g1, g2, a1, a2, b1, b2, c1, c2]; exact ⟨rfl, rfl⟩)] | rw [ZR (by simp [lk, Za, Od.v, hq, g1, g2, a1, a2, b1, b2, c1, c2]; exact rfl)] | rw [Zq] | rw [Zp] | rw [ZJ] | rw [ZU] | rw [ZK] | rw [ZT] | rw [ZM] | rw [ZL] | rw [ZC] | rw [Zs] | rw [Zt] | rw [Zi (by decide)] | rw [Zr] | rw [Zg] | rw [Zh] | rw [Zd (by decide)] | rw [ZX] | rw [ZV (by simp [ZN, ZE, ZG, ZH, Zy, Zj, Zw, Zm, Zo, Zb, Zc, Zn, Zz, ZA, ZI, ↓Zl, Zx, Zk, ZF, Zq, Zp, ZZ, ZD, Yk, put, lk, Od.v, Za, Zf, Zu, Yn, Yc, Yd, Ye, Yo, Yl, DV.isU, DV.cells, hget, ZO, Yb, ZP, Zv, splice, DV.one, ZQ, mat, Ya, Ym, hq, g1, g2, a1, a2, b1, b2, c1, c2]; exact ⟨rfl, rfl⟩)] | rw [ZW (by simp [lk, Za, Od.v, hq, g1, g2, a1, a2, b1, b2, c1, c2]; exact rfl)] | rw [ZS]))
  simp only [Yf, Yq, Za, List.map_cons, List.map_nil, lk, reduceIte, Nat.reduceEqDiff, Option.map_some]
  rw [fin_len1 (by simp) rfl]
theorem run143 (n : Nat) (hn : n < 256) (h : ZY) : E X 143 [.int .i64 n] h = some (.int .u64 (1 <<< Go.Sort.bitsLen n : Nat), h) := by
  have e1 := run123 n hn
  have w1 : IntKind.u64.wrap (n : Int) = n := by rw [wrapu, Nat.mod_eq_of_lt (by omega)]
  have h8 := bitsLen_lt n hn
  have w2 := pow_u (Go.Sort.bitsLen n) (by omega)
  generalize 1 <<< Go.Sort.bitsLen n = m at w2 ⊢
  generalize Go.Sort.bitsLen n = l at e1 w2
  have w3 : ¬ (l : Int) < 0 := by omega
  rw [Yt (X := X) _ b143 _ rfl rfl]; unfold b143; (repeat (first | rw [ZB] | rw [Ze (by simp [ZN, ZE, ZG, ZH, Zy, Zj, Zw, Zm, Zo, Zb, Zc, Zn, Zz, ZA, ZI, ↓Zl, Zx, Zk, ZF, Zq, Zp, ZZ, ZD, Yk, put, lk, Od.v, Za, Zf, Zu, Yn, Yc, Yd, Ye, Yo, Yl, DV.isU, DV.cells, hget, ZO, Yb, ZP, Zv, splice, DV.one, ZQ, mat, Ya, Ym, e1, w1, w2, w3]; exact ⟨rfl, rfl⟩)] | rw [ZR (by simp [lk, Za, Od.v, e1, w1, w2, w3]; exact rfl)] | rw [Zq] | rw [Zp] | rw [ZJ] | rw [ZU] | rw [ZK] | rw [ZT] | rw [ZM] | rw [ZL] | rw [ZC] | rw [Zs] | rw [Zt] | rw [Zi (by decide)] | rw [Zr] | rw [Zg] | rw [Zh] | rw [Zd (by decide)] | rw [ZX] | rw [ZV (by simp [ZN, ZE, ZG, ZH, Zy, Zj, Zw, Zm, Zo, Zb, Zc, Zn, Zz, ZA, ZI, ↓Zl, Zx, Zk, ZF, Zq, Zp, ZZ, ZD, Yk, put, lk, Od.v, Za, Zf, Zu, Yn, Yc, Yd, Ye, Yo, Yl, DV.isU, DV.cells, hget, ZO, Yb, ZP, Zv, splice, DV.one, ZQ, mat, Ya, Ym, e1, w1, w2, w3]; exact ⟨rfl, rfl⟩)] | rw [ZW (by simp [lk, Za, Od.v, e1, w1, w2, w3]; exact rfl)] | rw [ZS])); simp [Yf, Yg, Yq, ZN, ZE, ZG, ZH, Zy, Zj, Zw, Zm, Zo, Zb, Zc, Zn, Zz, ZA, ZI, ↓Zl, Zx, Zk, ZF, Zq, Zp, ZZ, ZD, Yk, put, lk, Od.v, Za, Zf, Zu, Yn, Yc, Yd, Ye, Yo, Yl, DV.isU, DV.cells, hget, ZO, Yb, ZP, Zv, splice, DV.one, ZQ, mat, Ya, Ym, fin, fz0, fz1, fzT, fzL, nlt, e1, w1, w2, w3]
/-- The heap with a row and, at its end, a random number. -/
def hx (H : ZY) (r g : Nat) (d : Array V) (x : UInt64) : ZY := hp (H ++ [.box 155 [.int .u64 x.toNat]]) r g d
theorem hx_get {H : ZY} {r : Nat} (g : Nat) (d : Array V) (x : UInt64) (hr : r < H.length) : (hx H r g d x)[H.length]? = some (.box 155 [.int .u64 x.toNat]) := by
  rw [hx, hp, List.getElem?_set_ne (by omega : r ≠ H.length), ZO]; rfl
theorem hx_set {H : ZY} {r : Nat} (g : Nat) (d : Array V) (x y : UInt64) (hr : r < H.length) : (hx H r g d x).set H.length (.box 155 [.int .u64 y.toNat]) = hx H r g d y := by
  simp only [hx, hp]
  rw [List.set_comm _ _ (by omega : r ≠ H.length), ZP]
  rfl
theorem hx_vw {H : ZY} {r n : Nat} (g : Nat) (d : Array V) (s : UInt64) (hr : r < H.length) (hd : d.size = n) : vw (hx H r g d s) 4 (rw_ r g n) = some (d.toList.map V.d) := Yy g d (by simp; omega) hd
theorem hx_rd {H : ZY} {r n : Nat} (g : Nat) (d : Array V) (s : UInt64) (hr : r < H.length) (hd : d.size = n) {i : Nat} (hi : i < n) : Yw (hx H r g d s) true 4 (.elem (rw_ r g n) 4 i 0) = some (el d i).d := rdS g d (by simp; omega) hd hi
theorem hx_wr {H : ZY} {r n : Nat} (g : Nat) (d : Array V) (s : UInt64) (hr : r < H.length) (hd : d.size = n) {i : Nat} (hi : i < n) (v : V) : stx (hx H r g d s) 4 (.elem (rw_ r g n) 4 i 0) (.agg [.int .i64 v.k, .int .i64 v.n, .str v.s, .bool v.t]) = some (hx H r g (upA d i v) s) := wrS g d (by simp; omega) hd hi v
theorem step133 {H : ZY} {r g n a l m i : Nat} (hr : r < H.length) (hn : n ≤ 1000000) (hal : a + l ≤ n) (hl : 8 ≤ l) (hm : m = 1 <<< Go.Sort.bitsLen l) (hl2 : l < 256) (hi : i ≤ a + l / 4 * 2 + 1) (d : Array V) (hd : d.size = n) (x : UInt64) :
    C X lp133_0 [(0, rw_ r g n), (1, .int .i64 a), (8, .int .i64 l), (9, .ref H.length 0), (10, .int .u64 m), (11, .int .i64 i)] (hx H r g d x) =
      some (.norm, [(0, rw_ r g n), (1, .int .i64 a), (8, .int .i64 l), (9, .ref H.length 0), (10, .int .u64 m), (11, .int .i64 (i + 1 : Nat))], hx H r g (Go.Sort.breakStep a l m (x, d) i).2 (Go.Sort.breakStep a l m (x, d) i).1) := by
  obtain ⟨y, hy⟩ : ∃ y, y = Go.Sort.xorNext x := ⟨_, rfl⟩
  obtain ⟨M, hM⟩ : ∃ M, M = m - 1 := ⟨_, rfl⟩
  obtain ⟨o, ho⟩ : ∃ o, o = y.toNat &&& M := ⟨_, rfl⟩
  obtain ⟨l4, hl4⟩ : ∃ l4, l4 = l / 4 := ⟨_, rfl⟩
  obtain ⟨l42, hl42⟩ : ∃ l42, l42 = l4 * 2 := ⟨_, rfl⟩
  obtain ⟨p, hp'⟩ : ∃ p, p = a + l42 := ⟨_, rfl⟩
  obtain ⟨p1, hp1⟩ : ∃ p1, p1 = p + 1 := ⟨_, rfl⟩
  obtain ⟨I, hI⟩ : ∃ I, I = i + 1 := ⟨_, rfl⟩
  have hm2 : m ≤ 2 * l := by
    rw [hm, Nat.one_shiftLeft, Go.Sort.bitsLen, if_neg (by omega), Nat.pow_succ]
    have := Nat.log2_self_le (show l ≠ 0 by omega)
    omega
  have hm1 : 1 ≤ m := by rw [hm, Nat.one_shiftLeft]; exact Nat.pos_of_ne_zero (by simp)
  have hoM : o ≤ M := by rw [ho]; exact Nat.and_le_right
  have e1 := run144 x (hx_get g d x hr)
  rw [← hy, hx_set g d x y hr] at e1
  have wM : IntKind.u64.wrap ((m : Int) - 1) = (M : Int) := by
    rw [show (m : Int) - 1 = ((M : Nat) : Int) by omega, wrapu, Nat.mod_eq_of_lt (by omega)]
  have wo := and_u y M (by omega)
  rw [← ho] at wo
  have w0 : IntKind.i64.wrap ((l : Int) / 4) = (l4 : Int) := (by rw [wrap64 _ (by omega) (by omega)]; omega)
  have w1 : IntKind.i64.wrap ((l4 : Int) * 2) = (l42 : Int) := (by rw [wrap64 _ (by omega) (by omega)]; omega)
  have w2 : IntKind.i64.wrap ((a : Int) + l42) = (p : Int) := (by rw [wrap64 _ (by omega) (by omega)]; omega)
  have w3 : IntKind.i64.wrap ((p : Int) + 1) = (p1 : Int) := (by rw [wrap64 _ (by omega) (by omega)]; omega)
  have w4 : IntKind.i64.wrap (o : Int) = (o : Int) := wrap64 _ (by omega) (by omega)
  have w5 : IntKind.i64.wrap ((i : Int) + 1) = (I : Int) := (by rw [wrap64 _ (by omega) (by omega)]; omega)
  have c0 : i ≤ p1 := by omega
  have u1 : i < n := by omega
  rw [← hI]
  have hdef : Go.Sort.breakStep a l m (x, d) i = (y, Go.Sort.swp d i (a + (if o ≥ l then o - l else o))) := by rw [Go.Sort.breakStep, ho, hM, hy]
  rw [hdef]
  by_cases hol : l ≤ o
  · obtain ⟨o', ho'⟩ : ∃ o', o' = o - l := ⟨_, rfl⟩
    obtain ⟨b, hb⟩ : ∃ b, b = a + o' := ⟨_, rfl⟩
    have w6 : IntKind.i64.wrap ((o : Int) - l) = (o' : Int) := (by rw [wrap64 _ (by omega) (by omega)]; omega)
    have w7 : IntKind.i64.wrap ((a : Int) + o') = (b : Int) := (by rw [wrap64 _ (by omega) (by omega)]; omega)
    have u2 : b < n := by omega
    rw [if_pos hol, ← ho', ← hb, swp_upd]
    unfold lp133_0
    (repeat (first | rw [ZB] | rw [Ze (by simp [ZN, ZE, ZG, ZH, Zy, Zj, Zw, Zm, Zo, Zb, Zc, Zn, Zz, ZA, ZI, ↓Zl, Zx, Zk, ZF, Zq, Zp, ZZ, ZD, Yk, put, lk, Od.v, Za, Zf, Zu, Yn, Yc, Yd, Ye, Yo, Yl, DV.isU, DV.cells, hget, ZO, Yb, ZP, Zv, splice, DV.one, ZQ, mat, Ya, Ym, e1, wM, wo, w0, w1, w2, w3, w4, w5, w6, w7, c0, u1, u2, hol, hr, hd, hx_vw, hx_rd, hx_wr, Yh]; exact ⟨rfl, rfl⟩)] | rw [ZR (by simp [lk, Za, Od.v, e1, wM, wo, w0, w1, w2, w3, w4, w5, w6, w7, c0, u1, u2, hol, hr, hd, hx_vw, hx_rd, hx_wr, Yh]; exact rfl)] | rw [Zq] | rw [Zp] | rw [ZJ] | rw [ZU] | rw [ZK] | rw [ZT] | rw [ZM] | rw [ZL] | rw [ZC] | rw [Zs] | rw [Zt] | rw [Zi (by decide)] | rw [Zr] | rw [Zg] | rw [Zh] | rw [Zd (by decide)] | rw [ZX] | rw [ZV (by simp [ZN, ZE, ZG, ZH, Zy, Zj, Zw, Zm, Zo, Zb, Zc, Zn, Zz, ZA, ZI, ↓Zl, Zx, Zk, ZF, Zq, Zp, ZZ, ZD, Yk, put, lk, Od.v, Za, Zf, Zu, Yn, Yc, Yd, Ye, Yo, Yl, DV.isU, DV.cells, hget, ZO, Yb, ZP, Zv, splice, DV.one, ZQ, mat, Ya, Ym, e1, wM, wo, w0, w1, w2, w3, w4, w5, w6, w7, c0, u1, u2, hol, hr, hd, hx_vw, hx_rd, hx_wr, Yh]; exact ⟨rfl, rfl⟩)] | rw [ZW (by simp [lk, Za, Od.v, e1, wM, wo, w0, w1, w2, w3, w4, w5, w6, w7, c0, u1, u2, hol, hr, hd, hx_vw, hx_rd, hx_wr, Yh]; exact rfl)] | rw [ZS]))
    simp [Za, lk]
  · obtain ⟨b, hb⟩ : ∃ b, b = a + o := ⟨_, rfl⟩
    have w7 : IntKind.i64.wrap ((a : Int) + o) = (b : Int) := (by rw [wrap64 _ (by omega) (by omega)]; omega)
    have u2 : b < n := by omega
    rw [if_neg hol, ← hb, swp_upd]
    unfold lp133_0
    (repeat (first | rw [ZB] | rw [Ze (by simp [ZN, ZE, ZG, ZH, Zy, Zj, Zw, Zm, Zo, Zb, Zc, Zn, Zz, ZA, ZI, ↓Zl, Zx, Zk, ZF, Zq, Zp, ZZ, ZD, Yk, put, lk, Od.v, Za, Zf, Zu, Yn, Yc, Yd, Ye, Yo, Yl, DV.isU, DV.cells, hget, ZO, Yb, ZP, Zv, splice, DV.one, ZQ, mat, Ya, Ym, e1, wM, wo, w0, w1, w2, w3, w4, w5, w7, c0, u1, u2, hol, hr, hd, hx_vw, hx_rd, hx_wr, Yh]; exact ⟨rfl, rfl⟩)] | rw [ZR (by simp [lk, Za, Od.v, e1, wM, wo, w0, w1, w2, w3, w4, w5, w7, c0, u1, u2, hol, hr, hd, hx_vw, hx_rd, hx_wr, Yh]; exact rfl)] | rw [Zq] | rw [Zp] | rw [ZJ] | rw [ZU] | rw [ZK] | rw [ZT] | rw [ZM] | rw [ZL] | rw [ZC] | rw [Zs] | rw [Zt] | rw [Zi (by decide)] | rw [Zr] | rw [Zg] | rw [Zh] | rw [Zd (by decide)] | rw [ZX] | rw [ZV (by simp [ZN, ZE, ZG, ZH, Zy, Zj, Zw, Zm, Zo, Zb, Zc, Zn, Zz, ZA, ZI, ↓Zl, Zx, Zk, ZF, Zq, Zp, ZZ, ZD, Yk, put, lk, Od.v, Za, Zf, Zu, Yn, Yc, Yd, Ye, Yo, Yl, DV.isU, DV.cells, hget, ZO, Yb, ZP, Zv, splice, DV.one, ZQ, mat, Ya, Ym, e1, wM, wo, w0, w1, w2, w3, w4, w5, w7, c0, u1, u2, hol, hr, hd, hx_vw, hx_rd, hx_wr, Yh]; exact ⟨rfl, rfl⟩)] | rw [ZW (by simp [lk, Za, Od.v, e1, wM, wo, w0, w1, w2, w3, w4, w5, w7, c0, u1, u2, hol, hr, hd, hx_vw, hx_rd, hx_wr, Yh]; exact rfl)] | rw [ZS]))
    simp [Za, lk]
theorem stop45 {H : ZY} {r g n a l m i : Nat} (hr : r < H.length) (hn : n ≤ 1000000) (hal : a + l ≤ n) (hi : a + l / 4 * 2 + 1 < i) (d : Array V) (x : UInt64) :
    ∃ e', C X lp133_0 [(0, rw_ r g n), (1, .int .i64 a), (8, .int .i64 l), (9, .ref H.length 0), (10, .int .u64 m), (11, .int .i64 i)] (hx H r g d x) = some (.exit 0, e', hx H r g d x) := by
  obtain ⟨l4, hl4⟩ : ∃ l4, l4 = l / 4 := ⟨_, rfl⟩
  obtain ⟨l42, hl42⟩ : ∃ l42, l42 = l4 * 2 := ⟨_, rfl⟩
  obtain ⟨p, hp'⟩ : ∃ p, p = a + l42 := ⟨_, rfl⟩
  obtain ⟨p1, hp1⟩ : ∃ p1, p1 = p + 1 := ⟨_, rfl⟩
  have w0 : IntKind.i64.wrap ((l : Int) / 4) = (l4 : Int) := (by rw [wrap64 _ (by omega) (by omega)]; omega)
  have w1 : IntKind.i64.wrap ((l4 : Int) * 2) = (l42 : Int) := (by rw [wrap64 _ (by omega) (by omega)]; omega)
  have w2 : IntKind.i64.wrap ((a : Int) + l42) = (p : Int) := (by rw [wrap64 _ (by omega) (by omega)]; omega)
  have w3 : IntKind.i64.wrap ((p : Int) + 1) = (p1 : Int) := (by rw [wrap64 _ (by omega) (by omega)]; omega)
  have c0 : ¬ i ≤ p1 := by omega
  unfold lp133_0
  (repeat (first | rw [ZB] | rw [Ze (by simp [ZN, ZE, ZG, ZH, Zy, Zj, Zw, Zm, Zo, Zb, Zc, Zn, Zz, ZA, ZI, ↓Zl, Zx, Zk, ZF, Zq, Zp, ZZ, ZD, Yk, put, lk, Od.v, Za, Zf, Zu, Yn, Yc, Yd, Ye, Yo, Yl, DV.isU, DV.cells, hget, ZO, Yb, ZP, Zv, splice, DV.one, ZQ, mat, Ya, Ym, w0, w1, w2, w3, c0]; exact ⟨rfl, rfl⟩)] | rw [ZR (by simp [lk, Za, Od.v, w0, w1, w2, w3, c0]; exact rfl)] | rw [Zq] | rw [Zp] | rw [ZJ] | rw [ZU] | rw [ZK] | rw [ZT] | rw [ZM] | rw [ZL] | rw [ZC] | rw [Zs] | rw [Zt] | rw [Zi (by decide)] | rw [Zr] | rw [Zg] | rw [Zh] | rw [Zd (by decide)] | rw [ZX] | rw [ZV (by simp [ZN, ZE, ZG, ZH, Zy, Zj, Zw, Zm, Zo, Zb, Zc, Zn, Zz, ZA, ZI, ↓Zl, Zx, Zk, ZF, Zq, Zp, ZZ, ZD, Yk, put, lk, Od.v, Za, Zf, Zu, Yn, Yc, Yd, Ye, Yo, Yl, DV.isU, DV.cells, hget, ZO, Yb, ZP, Zv, splice, DV.one, ZQ, mat, Ya, Ym, w0, w1, w2, w3, c0]; exact ⟨rfl, rfl⟩)] | rw [ZW (by simp [lk, Za, Od.v, w0, w1, w2, w3, c0]; exact rfl)] | rw [ZS]))
  exact ⟨_, rfl⟩
theorem fin_hx {H : ZY} {r g : Nat} (hr : r < H.length) (d d' : Array V) (x : UInt64) : ∃ l, fin (hp H r g d) (hx H r g d' x) [] = (.tup [], hp (H ++ l) r g d') := by
  have h1 : (hx H r g d' x).take (hp H r g d).length = hp H r g d' := by
    simp only [hx, hp]
    rw [List.set_append_left _ _ hr, List.take_append_of_le_length (by simp), List.take_of_length_le (by simp)]
  rw [fin, h1]
  · split
    · rename_i h2
      simp only [fzT]
      exact ⟨[], by rw [List.append_nil, h2]⟩
    · exact ⟨_, rfl⟩
  · intro d h; cases h
theorem break_size (a l m i : Nat) (x : UInt64) (d : Array V) : (Go.Sort.breakStep a l m (x, d) i).2.size = d.size := by
  simp only [Go.Sort.breakStep]; rw [swp_size]
theorem run133 {H : ZY} {r g n a b : Nat} (hr : r < H.length) (hn : n ≤ 1000000) (hab : a < b) (hb : b ≤ n) (hl2 : b - a < 256) (d : Array V) (hd : d.size = n) :
    ∃ l, E X 133 [rw_ r g n, .int .i64 a, .int .i64 b, .func 98 [] []] (hp H r g d) = some (.tup [], hp (H ++ l) r g (Go.Sort.breakPatterns d a b)) := by
  obtain ⟨l, hl⟩ : ∃ l, l = b - a := ⟨_, rfl⟩
  have w0 : IntKind.i64.wrap ((b : Int) - a) = (l : Int) := (by rw [wrap64 _ (by omega) (by omega)]; omega)
  by_cases h8 : l < 8
  · refine ⟨[], ?_⟩
    have hdef : Go.Sort.breakPatterns d a b = d := by
      rw [Go.Sort.breakPatterns]; simp only; rw [if_neg (by omega)]
    have i8 : ¬ (8 : Int) ≤ l := by omega
    rw [hdef, List.append_nil, Yt (X := X) _ b133 _ rfl rfl]; unfold b133
    (repeat (first | rw [ZB] | rw [Ze (by simp [ZN, ZE, ZG, ZH, Zy, Zj, Zw, Zm, Zo, Zb, Zc, Zn, Zz, ZA, ZI, ↓Zl, Zx, Zk, ZF, Zq, Zp, ZZ, ZD, Yk, put, lk, Od.v, Za, Zf, Zu, Yn, Yc, Yd, Ye, Yo, Yl, DV.isU, DV.cells, hget, ZO, Yb, ZP, Zv, splice, DV.one, ZQ, mat, Ya, Ym, w0, i8]; exact ⟨rfl, rfl⟩)] | rw [ZR (by simp [lk, Za, Od.v, w0, i8]; exact rfl)] | rw [Zq] | rw [Zp] | rw [ZJ] | rw [ZU] | rw [ZK] | rw [ZT] | rw [ZM] | rw [ZL] | rw [ZC] | rw [Zs] | rw [Zt] | rw [Zi (by decide)] | rw [Zr] | rw [Zg] | rw [Zh] | rw [Zd (by decide)] | rw [ZX] | rw [ZV (by simp [ZN, ZE, ZG, ZH, Zy, Zj, Zw, Zm, Zo, Zb, Zc, Zn, Zz, ZA, ZI, ↓Zl, Zx, Zk, ZF, Zq, Zp, ZZ, ZD, Yk, put, lk, Od.v, Za, Zf, Zu, Yn, Yc, Yd, Ye, Yo, Yl, DV.isU, DV.cells, hget, ZO, Yb, ZP, Zv, splice, DV.one, ZQ, mat, Ya, Ym, w0, i8]; exact ⟨rfl, rfl⟩)] | rw [ZW (by simp [lk, Za, Od.v, w0, i8]; exact rfl)] | rw [ZS]))
    simp [Yg, Yq, fin_hp]
  · have i8 : (8 : Int) ≤ l := by omega
    obtain ⟨m, hm⟩ : ∃ m, m = 1 <<< Go.Sort.bitsLen l := ⟨_, rfl⟩
    obtain ⟨l4, hl4⟩ : ∃ l4, l4 = l / 4 := ⟨_, rfl⟩
    obtain ⟨l42, hl42⟩ : ∃ l42, l42 = l4 * 2 := ⟨_, rfl⟩
    obtain ⟨p, hp'⟩ : ∃ p, p = a + l42 := ⟨_, rfl⟩
    obtain ⟨i, hi⟩ : ∃ i, i = p - 1 := ⟨_, rfl⟩
    have w1 : IntKind.i64.wrap ((l : Int) / 4) = (l4 : Int) := (by rw [wrap64 _ (by omega) (by omega)]; omega)
    have w2 : IntKind.i64.wrap ((l4 : Int) * 2) = (l42 : Int) := (by rw [wrap64 _ (by omega) (by omega)]; omega)
    have w3 : IntKind.i64.wrap ((a : Int) + l42) = (p : Int) := (by rw [wrap64 _ (by omega) (by omega)]; omega)
    have w4 : IntKind.i64.wrap ((p : Int) - 1) = (i : Int) := (by rw [wrap64 _ (by omega) (by omega)]; omega)
    have wu : IntKind.u64.wrap (l : Int) = (l : Int) := by rw [wrapu, Nat.mod_eq_of_lt (by omega)]
    have e1 := run143 l (by omega)
    rw [← hm] at e1
    have hdef : Go.Sort.breakPatterns d a b = (Go.Sort.breakStep a l m (Go.Sort.breakStep a l m (Go.Sort.breakStep a l m (UInt64.ofNat l, d) i) (i + 1)) (i + 2)).2 := by
      rw [Go.Sort.breakPatterns]; simp only; rw [if_pos (by omega)]
      rw [hm, hi, hp', hl42, hl4, hl]
    have s1 := step133 (H := H) (r := r) (g := g) (n := n) (a := a) (l := l) (m := m) (i := i) hr hn (by omega) (by omega) hm (by omega) (by omega) d hd (UInt64.ofNat l)
    have z1 := break_size a l m i (UInt64.ofNat l) d
    generalize Go.Sort.breakStep a l m (UInt64.ofNat l, d) i = o1 at s1 z1 hdef
    obtain ⟨x1, d1⟩ := o1
    have s2 := step133 (H := H) (r := r) (g := g) (n := n) (a := a) (l := l) (m := m) (i := i + 1) hr hn (by omega) (by omega) hm (by omega) (by omega) d1 (by rw [z1, hd]) x1
    have z2 := break_size a l m (i + 1) x1 d1
    generalize Go.Sort.breakStep a l m (x1, d1) (i + 1) = o2 at s2 z2 hdef
    obtain ⟨x2, d2⟩ := o2
    have s3 := step133 (H := H) (r := r) (g := g) (n := n) (a := a) (l := l) (m := m) (i := i + 2) hr hn (by omega) (by omega) hm (by omega) (by omega) d2 (by rw [z2, z1, hd]) x2
    have z3 := break_size a l m (i + 2) x2 d2
    generalize Go.Sort.breakStep a l m (x2, d2) (i + 2) = o3 at s3 z3 hdef
    obtain ⟨x3, d3⟩ := o3
    obtain ⟨e', s4⟩ := stop45 (H := H) (r := r) (g := g) (n := n) (a := a) (l := l) (m := m) (i := i + 3) hr hn (by omega) (by omega) d3 x3
    have hl : C X (.loop lp133_0) [(0, rw_ r g n), (1, .int .i64 a), (8, .int .i64 l), (9, .ref H.length 0), (10, .int .u64 m), (11, .int .i64 i)] (hx H r g d (UInt64.ofNat l)) = some (.exit 0, e', hx H r g d3 x3) := by
      rw [Yj, s1, Yu, Yj, s2, Yu, Yj, s3, Yu, Yj, s4, Yr]
    have hst : hp H r g d ++ [HO.box 155 [.int .u64 l]] = hx H r g d (UInt64.ofNat l) := by
      simp only [hx, hp]
      rw [List.set_append_left _ _ hr, UInt64.toNat_ofNat', Nat.mod_eq_of_lt (by omega)]
    have hrl := hp_len H r g d
    obtain ⟨q, hq⟩ := fin_hx (g := g) hr d d3 x3
    refine ⟨q, ?_⟩
    rw [hdef, Yt (X := X) _ b133 _ rfl rfl]; unfold b133
    (repeat (first | rw [ZB] | rw [Ze (by simp [ZN, ZE, ZG, ZH, Zy, Zj, Zw, Zm, Zo, Zb, Zc, Zn, Zz, ZA, ZI, ↓Zl, Zx, Zk, ZF, Zq, Zp, ZZ, ZD, Yk, put, lk, Od.v, Za, Zf, Zu, Yn, Yc, Yd, Ye, Yo, Yl, DV.isU, DV.cells, hget, ZO, Yb, ZP, Zv, splice, DV.one, ZQ, mat, Ya, Ym, w0, i8, w1, w2, w3, w4, wu, e1, hst, hrl]; exact ⟨rfl, rfl⟩)] | rw [ZR (by simp [lk, Za, Od.v, w0, i8, w1, w2, w3, w4, wu, e1, hst, hrl]; exact rfl)] | rw [Zq] | rw [Zp] | rw [ZJ] | rw [ZU] | rw [ZK] | rw [ZT] | rw [ZM] | rw [ZL] | rw [ZC] | rw [Zs] | rw [Zt] | rw [Zi (by decide)] | rw [Zr] | rw [Zg] | rw [Zh] | rw [Zd (by decide)] | rw [ZX] | rw [ZV (by simp [ZN, ZE, ZG, ZH, Zy, Zj, Zw, Zm, Zo, Zb, Zc, Zn, Zz, ZA, ZI, ↓Zl, Zx, Zk, ZF, Zq, Zp, ZZ, ZD, Yk, put, lk, Od.v, Za, Zf, Zu, Yn, Yc, Yd, Ye, Yo, Yl, DV.isU, DV.cells, hget, ZO, Yb, ZP, Zv, splice, DV.one, ZQ, mat, Ya, Ym, w0, i8, w1, w2, w3, w4, wu, e1, hst, hrl]; exact ⟨rfl, rfl⟩)] | rw [ZW (by simp [lk, Za, Od.v, w0, i8, w1, w2, w3, w4, wu, e1, hst, hrl]; exact rfl)] | rw [ZS]))
    (try simp only [Za, List.map_cons, List.map_nil, lk, reduceIte, Nat.reduceEqDiff, Nat.zero_ne_one, Nat.one_ne_zero])
    rw [hl]
    (repeat (first | rw [ZB] | rw [Ze (by simp [ZN, ZE, ZG, ZH, Zy, Zj, Zw, Zm, Zo, Zb, Zc, Zn, Zz, ZA, ZI, ↓Zl, Zx, Zk, ZF, Zq, Zp, ZZ, ZD, Yk, put, lk, Od.v, Za, Zf, Zu, Yn, Yc, Yd, Ye, Yo, Yl, DV.isU, DV.cells, hget, ZO, Yb, ZP, Zv, splice, DV.one, ZQ, mat, Ya, Ym]; exact ⟨rfl, rfl⟩)] | rw [ZR (by simp [lk, Za, Od.v]; exact rfl)] | rw [Zq] | rw [Zp] | rw [ZJ] | rw [ZU] | rw [ZK] | rw [ZT] | rw [ZM] | rw [ZL] | rw [ZC] | rw [Zs] | rw [Zt] | rw [Zi (by decide)] | rw [Zr] | rw [Zg] | rw [Zh] | rw [Zd (by decide)] | rw [ZX] | rw [ZV (by simp [ZN, ZE, ZG, ZH, Zy, Zj, Zw, Zm, Zo, Zb, Zc, Zn, Zz, ZA, ZI, ↓Zl, Zx, Zk, ZF, Zq, Zp, ZZ, ZD, Yk, put, lk, Od.v, Za, Zf, Zu, Yn, Yc, Yd, Ye, Yo, Yl, DV.isU, DV.cells, hget, ZO, Yb, ZP, Zv, splice, DV.one, ZQ, mat, Ya, Ym]; exact ⟨rfl, rfl⟩)] | rw [ZW (by simp [lk, Za, Od.v]; exact rfl)] | rw [ZS]))
    simp only [Yg, Yq, Option.map_some]
    rw [hq]
end Go.Proofs.YtebjndbigoddnaaDoor
