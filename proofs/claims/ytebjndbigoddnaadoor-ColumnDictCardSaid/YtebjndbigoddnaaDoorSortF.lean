/- Ideal runs: the scans of the partitions. Ideal runs: the partitions. Ideal runs: partial insertion sort. -/
import Derived.Test.YtebjndbigoddnaaDoorSortB
namespace Go.Proofs.YtebjndbigoddnaaDoor
attribute [local go_sem] ZN ZE ZG ZH Zy Zj Zw Zm Zo Zb Zc Zn Zz ZA ZI Zx Zk ZF Zq Zp ZZ ZD Yk put lk Od.v Za Zf Zu Yn Yc Yd Ye Yo Yl DV.isU DV.cells hget ZO Yb ZP Zv splice ZQ mat Ya Ym one_bool one_int one_str one_nilp one_ref one_elem one_nils one_list one_row one_nilm one_map one_nilf one_func one_nili one_ifc one_agg one_tup one_undef one_fresh
attribute [local go_sem ↓] Zl
set_option linter.unusedVariables false
set_option linter.unusedSimpArgs false
set_option maxRecDepth 10000
theorem up49 {H : ZY} {r g n a : Nat} (hr : r < H.length) (hn : n ≤ 1000000) (ha : a < n) (d : Array V) (hd : d.size = n) : ∀ (k i j : Nat), j + 1 - i ≤ k → j < n → i ≤ n →
    (∃ y, C X (.loop lp137_1) [(0, rw_ r g n), (1, .int .i64 a), (4, .func 98 [] []), (11, .int .i64 i), (12, .int .i64 j)] (hp H r g d) =
      some (.exit 2, [(0, rw_ r g n), (1, .int .i64 a), (4, .func 98 [] []), (11, .int .i64 (Go.Sort.scanUp (fun x => !lt d[a]! x) d j i : Nat)), (12, .int .i64 j), (47, y)], hp H r g d)) ∧ i ≤ Go.Sort.scanUp (fun x => !lt d[a]! x) d j i ∧ (Go.Sort.scanUp (fun x => !lt d[a]! x) d j i ≤ j + 1 ∨ Go.Sort.scanUp (fun x => !lt d[a]! x) d j i = i) := by
  intro k
  induction k with
  | zero =>
    intro i j hk hj hi
    have w0 : ¬ i ≤ j := by omega
    rw [Go.Sort.scanUp, if_neg (by simp [w0])]
    refine ⟨?_, Nat.le_refl _, .inr rfl⟩
    rw [Yj]
    unfold lp137_1
    (repeat (first | rw [ZB] | rw [Ze (by simp [go_sem, w0]; exact ⟨rfl, rfl⟩)] | rw [ZR (by simp [lk, Za, Od.v, w0]; exact rfl)] | rw [Zq] | rw [Zp] | rw [ZJ] | rw [ZU] | rw [ZK] | rw [ZT] | rw [ZM] | rw [ZL] | rw [ZC] | rw [Zs] | rw [Zt] | rw [Zi (by decide)] | rw [Zr] | rw [Zg] | rw [Zh] | rw [Zd (by decide)] | rw [ZX] | rw [ZV (by simp [go_sem, w0]; exact ⟨rfl, rfl⟩)] | rw [ZW (by simp [lk, Za, Od.v, w0]; exact rfl)] | rw [ZS]))
    rw [Yr]
    exact ⟨_, by simp [Za, lk]; exact rfl⟩
  | succ k ih =>
    intro i j hk hj hi
    by_cases w0 : i ≤ j
    · obtain ⟨I, hI⟩ : ∃ I, I = i + 1 := ⟨_, rfl⟩
      have w1 : IntKind.i64.wrap ((i : Int) + 1) = (I : Int) := (by rw [wrap64 _ (by omega) (by omega)]; omega)
      have u1 : i < n := by omega
      cases hp' : lt (el d a) (el d i)
      · have q := lt_neg hp'
        have hs : C X lp137_1 [(0, rw_ r g n), (1, .int .i64 a), (4, .func 98 [] []), (11, .int .i64 i), (12, .int .i64 j)] (hp H r g d) = some (.norm, [(0, rw_ r g n), (1, .int .i64 a), (4, .func 98 [] []), (11, .int .i64 I), (12, .int .i64 j)], hp H r g d) := by
          unfold lp137_1
          (repeat (first | rw [ZB] | rw [Ze (by simp [go_sem, w0, w1, u1, ha, hr, hd, Yy, rdS, run98, q]; exact ⟨rfl, rfl⟩)] | rw [ZR (by simp [lk, Za, Od.v, w0, w1, u1, ha, hr, hd, Yy, rdS, run98, q]; exact rfl)] | rw [Zq] | rw [Zp] | rw [ZJ] | rw [ZU] | rw [ZK] | rw [ZT] | rw [ZM] | rw [ZL] | rw [ZC] | rw [Zs] | rw [Zt] | rw [Zi (by decide)] | rw [Zr] | rw [Zg] | rw [Zh] | rw [Zd (by decide)] | rw [ZX] | rw [ZV (by simp [go_sem, w0, w1, u1, ha, hr, hd, Yy, rdS, run98, q]; exact ⟨rfl, rfl⟩)] | rw [ZW (by simp [lk, Za, Od.v, w0, w1, u1, ha, hr, hd, Yy, rdS, run98, q]; exact rfl)] | rw [ZS]))
          simp [Za, lk]
        have hdef : Go.Sort.scanUp (fun x => !lt d[a]! x) d j i = Go.Sort.scanUp (fun x => !lt d[a]! x) d j I := by
          rw [Go.Sort.scanUp.eq_1 _ d j i, if_pos, hI]
          have hp2 : lt (el d a) (el d i) = _ := hp'
          unfold el at hp2
          simp [w0, hp2]
        have h3 := ih I j (by omega) hj (by omega)
        rw [Yj, hs, Yu, hdef]
        exact ⟨h3.1, by omega, by omega⟩
      · have q := lt_pos hp'
        have hdef : Go.Sort.scanUp (fun x => !lt d[a]! x) d j i = i := by
          rw [Go.Sort.scanUp.eq_1 _ d j i, if_neg]
          have hp2 : lt (el d a) (el d i) = _ := hp'
          unfold el at hp2
          simp [hp2]
        rw [hdef]
        refine ⟨?_, Nat.le_refl _, .inr rfl⟩
        rw [Yj]
        unfold lp137_1
        (repeat (first | rw [ZB] | rw [Ze (by simp [go_sem, w0, w1, u1, ha, hr, hd, Yy, rdS, run98, q]; exact ⟨rfl, rfl⟩)] | rw [ZR (by simp [lk, Za, Od.v, w0, w1, u1, ha, hr, hd, Yy, rdS, run98, q]; exact rfl)] | rw [Zq] | rw [Zp] | rw [ZJ] | rw [ZU] | rw [ZK] | rw [ZT] | rw [ZM] | rw [ZL] | rw [ZC] | rw [Zs] | rw [Zt] | rw [Zi (by decide)] | rw [Zr] | rw [Zg] | rw [Zh] | rw [Zd (by decide)] | rw [ZX] | rw [ZV (by simp [go_sem, w0, w1, u1, ha, hr, hd, Yy, rdS, run98, q]; exact ⟨rfl, rfl⟩)] | rw [ZW (by simp [lk, Za, Od.v, w0, w1, u1, ha, hr, hd, Yy, rdS, run98, q]; exact rfl)] | rw [ZS]))
        rw [Yr]
        exact ⟨_, by simp [Za, lk]; exact rfl⟩
    · exact ih i j (by omega) hj hi

theorem down49 {H : ZY} {r g n a i : Nat} (hr : r < H.length) (hn : n ≤ 1000000) (ha : a < n) (hi1 : 1 ≤ i) (hi : i ≤ n) (d : Array V) (hd : d.size = n) : ∀ (j : Nat) (ex : Env), j < n →
    (∃ y, C X (.loop lp137_2) ((0, rw_ r g n) :: (1, .int .i64 a) :: (4, .func 98 [] []) :: (11, .int .i64 i) :: (12, .int .i64 j) :: ex) (hp H r g d) =
      some (.exit 4, [(0, rw_ r g n), (1, .int .i64 a), (4, .func 98 [] []), (11, .int .i64 i), (12, .int .i64 (Go.Sort.scanDown (fun x => lt d[a]! x) d i j : Nat)), (65, y)], hp H r g d)) ∧ Go.Sort.scanDown (fun x => lt d[a]! x) d i j ≤ j ∧ (i ≤ j + 1 → i ≤ Go.Sort.scanDown (fun x => lt d[a]! x) d i j + 1) := by
  intro j
  induction j with
  | zero =>
    intro ex hj
    have w0 : ¬ i = 0 := by omega
    have w0' : ¬ (i : Int) ≤ 0 := by omega
    rw [Go.Sort.scanDown]
    refine ⟨?_, Nat.le_refl _, fun h => h⟩
    rw [Yj]
    unfold lp137_2
    (repeat (first | rw [ZB] | rw [Ze (by simp [go_sem, w0, w0']; exact ⟨rfl, rfl⟩)] | rw [ZR (by simp [lk, Za, Od.v, w0, w0']; exact rfl)] | rw [Zq] | rw [Zp] | rw [ZJ] | rw [ZU] | rw [ZK] | rw [ZT] | rw [ZM] | rw [ZL] | rw [ZC] | rw [Zs] | rw [Zt] | rw [Zi (by decide)] | rw [Zr] | rw [Zg] | rw [Zh] | rw [Zd (by decide)] | rw [ZX] | rw [ZV (by simp [go_sem, w0, w0']; exact ⟨rfl, rfl⟩)] | rw [ZW (by simp [lk, Za, Od.v, w0, w0']; exact rfl)] | rw [ZS]))
    rw [Yr]
    exact ⟨_, by simp [Za, lk]; exact rfl⟩
  | succ J ih =>
    intro ex hj
    obtain ⟨j, hJ⟩ : ∃ j, j = J + 1 := ⟨_, rfl⟩
    rw [← hJ]
    have hd1 : Go.Sort.scanDown (fun x => lt d[a]! x) d i j = if (decide (i ≤ j) && ((fun x => lt d[a]! x)) (el d j)) = true then Go.Sort.scanDown (fun x => lt d[a]! x) d i J else j := by
      rw [hJ, Go.Sort.scanDown]; rfl
    have w1 : IntKind.i64.wrap ((j : Int) - 1) = (J : Int) := (by rw [wrap64 _ (by omega) (by omega)]; omega)
    have u1 : j < n := by omega
    rw [hd1]
    by_cases w0 : i ≤ j
    · cases hp' : lt (el d a) (el d j)
      · have q := lt_neg hp'
        rw [if_neg (by unfold el at hp' ⊢; simp [hp'])]
        refine ⟨?_, Nat.le_refl _, fun h => h⟩
        rw [Yj]
        unfold lp137_2
        (repeat (first | rw [ZB] | rw [Ze (by simp [go_sem, w0, w1, u1, ha, hr, hd, Yy, rdS, run98, q]; exact ⟨rfl, rfl⟩)] | rw [ZR (by simp [lk, Za, Od.v, w0, w1, u1, ha, hr, hd, Yy, rdS, run98, q]; exact rfl)] | rw [Zq] | rw [Zp] | rw [ZJ] | rw [ZU] | rw [ZK] | rw [ZT] | rw [ZM] | rw [ZL] | rw [ZC] | rw [Zs] | rw [Zt] | rw [Zi (by decide)] | rw [Zr] | rw [Zg] | rw [Zh] | rw [Zd (by decide)] | rw [ZX] | rw [ZV (by simp [go_sem, w0, w1, u1, ha, hr, hd, Yy, rdS, run98, q]; exact ⟨rfl, rfl⟩)] | rw [ZW (by simp [lk, Za, Od.v, w0, w1, u1, ha, hr, hd, Yy, rdS, run98, q]; exact rfl)] | rw [ZS]))
        rw [Yr]
        exact ⟨_, by simp [Za, lk]; exact rfl⟩
      · have q := lt_pos hp'
        have hs : C X lp137_2 ((0, rw_ r g n) :: (1, .int .i64 a) :: (4, .func 98 [] []) :: (11, .int .i64 i) :: (12, .int .i64 j) :: ex) (hp H r g d) = some (.norm, [(0, rw_ r g n), (1, .int .i64 a), (4, .func 98 [] []), (11, .int .i64 i), (12, .int .i64 J)], hp H r g d) := by
          unfold lp137_2
          (repeat (first | rw [ZB] | rw [Ze (by simp [go_sem, w0, w1, u1, ha, hr, hd, Yy, rdS, run98, q]; exact ⟨rfl, rfl⟩)] | rw [ZR (by simp [lk, Za, Od.v, w0, w1, u1, ha, hr, hd, Yy, rdS, run98, q]; exact rfl)] | rw [Zq] | rw [Zp] | rw [ZJ] | rw [ZU] | rw [ZK] | rw [ZT] | rw [ZM] | rw [ZL] | rw [ZC] | rw [Zs] | rw [Zt] | rw [Zi (by decide)] | rw [Zr] | rw [Zg] | rw [Zh] | rw [Zd (by decide)] | rw [ZX] | rw [ZV (by simp [go_sem, w0, w1, u1, ha, hr, hd, Yy, rdS, run98, q]; exact ⟨rfl, rfl⟩)] | rw [ZW (by simp [lk, Za, Od.v, w0, w1, u1, ha, hr, hd, Yy, rdS, run98, q]; exact rfl)] | rw [ZS]))
          simp [Za, lk]
        have h3 := ih [] (by omega)
        rw [if_pos (by unfold el at hp' ⊢; simp [w0, hp']), Yj, hs, Yu]
        exact ⟨h3.1, by omega, fun h => h3.2.2 (by omega)⟩
    · rw [if_neg (by simp [w0])]
      refine ⟨?_, Nat.le_refl _, fun h => h⟩
      rw [Yj]
      unfold lp137_2
      (repeat (first | rw [ZB] | rw [Ze (by simp [go_sem, w0]; exact ⟨rfl, rfl⟩)] | rw [ZR (by simp [lk, Za, Od.v, w0]; exact rfl)] | rw [Zq] | rw [Zp] | rw [ZJ] | rw [ZU] | rw [ZK] | rw [ZT] | rw [ZM] | rw [ZL] | rw [ZC] | rw [Zs] | rw [Zt] | rw [Zi (by decide)] | rw [Zr] | rw [Zg] | rw [Zh] | rw [Zd (by decide)] | rw [ZX] | rw [ZV (by simp [go_sem, w0]; exact ⟨rfl, rfl⟩)] | rw [ZW (by simp [lk, Za, Od.v, w0]; exact rfl)] | rw [ZS]))
      rw [Yr]
      exact ⟨_, by simp [Za, lk]; exact rfl⟩

theorem up50a {H : ZY} {r g n a : Nat} (hr : r < H.length) (hn : n ≤ 1000000) (ha : a < n) (d : Array V) (hd : d.size = n) : ∀ (k i j : Nat), j + 1 - i ≤ k → j < n → i ≤ n →
    (∃ y, C X (.loop lp138_0) [(0, rw_ r g n), (1, .int .i64 a), (4, .func 98 [] []), (12, .int .i64 i), (13, .int .i64 j)] (hp H r g d) =
      some (.exit 0, [(0, rw_ r g n), (1, .int .i64 a), (4, .func 98 [] []), (12, .int .i64 (Go.Sort.scanUp (fun x => lt x d[a]!) d j i : Nat)), (13, .int .i64 j), (47, y)], hp H r g d)) ∧ i ≤ Go.Sort.scanUp (fun x => lt x d[a]!) d j i ∧ (Go.Sort.scanUp (fun x => lt x d[a]!) d j i ≤ j + 1 ∨ Go.Sort.scanUp (fun x => lt x d[a]!) d j i = i) := by
  intro k
  induction k with
  | zero =>
    intro i j hk hj hi
    have w0 : ¬ i ≤ j := by omega
    rw [Go.Sort.scanUp, if_neg (by simp [w0])]
    refine ⟨?_, Nat.le_refl _, .inr rfl⟩
    rw [Yj]
    unfold lp138_0
    (repeat (first | rw [ZB] | rw [Ze (by simp [go_sem, w0]; exact ⟨rfl, rfl⟩)] | rw [ZR (by simp [lk, Za, Od.v, w0]; exact rfl)] | rw [Zq] | rw [Zp] | rw [ZJ] | rw [ZU] | rw [ZK] | rw [ZT] | rw [ZM] | rw [ZL] | rw [ZC] | rw [Zs] | rw [Zt] | rw [Zi (by decide)] | rw [Zr] | rw [Zg] | rw [Zh] | rw [Zd (by decide)] | rw [ZX] | rw [ZV (by simp [go_sem, w0]; exact ⟨rfl, rfl⟩)] | rw [ZW (by simp [lk, Za, Od.v, w0]; exact rfl)] | rw [ZS]))
    rw [Yr]
    exact ⟨_, by simp [Za, lk]; exact rfl⟩
  | succ k ih =>
    intro i j hk hj hi
    by_cases w0 : i ≤ j
    · obtain ⟨I, hI⟩ : ∃ I, I = i + 1 := ⟨_, rfl⟩
      have w1 : IntKind.i64.wrap ((i : Int) + 1) = (I : Int) := (by rw [wrap64 _ (by omega) (by omega)]; omega)
      have u1 : i < n := by omega
      cases hp' : lt (el d i) (el d a)
      · have q := lt_neg hp'
        have hdef : Go.Sort.scanUp (fun x => lt x d[a]!) d j i = i := by
          rw [Go.Sort.scanUp.eq_1 _ d j i, if_neg]
          have hp2 : lt (el d i) (el d a) = _ := hp'
          unfold el at hp2
          simp [hp2]
        rw [hdef]
        refine ⟨?_, Nat.le_refl _, .inr rfl⟩
        rw [Yj]
        unfold lp138_0
        (repeat (first | rw [ZB] | rw [Ze (by simp [go_sem, w0, w1, u1, ha, hr, hd, Yy, rdS, run98, q]; exact ⟨rfl, rfl⟩)] | rw [ZR (by simp [lk, Za, Od.v, w0, w1, u1, ha, hr, hd, Yy, rdS, run98, q]; exact rfl)] | rw [Zq] | rw [Zp] | rw [ZJ] | rw [ZU] | rw [ZK] | rw [ZT] | rw [ZM] | rw [ZL] | rw [ZC] | rw [Zs] | rw [Zt] | rw [Zi (by decide)] | rw [Zr] | rw [Zg] | rw [Zh] | rw [Zd (by decide)] | rw [ZX] | rw [ZV (by simp [go_sem, w0, w1, u1, ha, hr, hd, Yy, rdS, run98, q]; exact ⟨rfl, rfl⟩)] | rw [ZW (by simp [lk, Za, Od.v, w0, w1, u1, ha, hr, hd, Yy, rdS, run98, q]; exact rfl)] | rw [ZS]))
        rw [Yr]
        exact ⟨_, by simp [Za, lk]; exact rfl⟩
      · have q := lt_pos hp'
        have hs : C X lp138_0 [(0, rw_ r g n), (1, .int .i64 a), (4, .func 98 [] []), (12, .int .i64 i), (13, .int .i64 j)] (hp H r g d) = some (.norm, [(0, rw_ r g n), (1, .int .i64 a), (4, .func 98 [] []), (12, .int .i64 I), (13, .int .i64 j)], hp H r g d) := by
          unfold lp138_0
          (repeat (first | rw [ZB] | rw [Ze (by simp [go_sem, w0, w1, u1, ha, hr, hd, Yy, rdS, run98, q]; exact ⟨rfl, rfl⟩)] | rw [ZR (by simp [lk, Za, Od.v, w0, w1, u1, ha, hr, hd, Yy, rdS, run98, q]; exact rfl)] | rw [Zq] | rw [Zp] | rw [ZJ] | rw [ZU] | rw [ZK] | rw [ZT] | rw [ZM] | rw [ZL] | rw [ZC] | rw [Zs] | rw [Zt] | rw [Zi (by decide)] | rw [Zr] | rw [Zg] | rw [Zh] | rw [Zd (by decide)] | rw [ZX] | rw [ZV (by simp [go_sem, w0, w1, u1, ha, hr, hd, Yy, rdS, run98, q]; exact ⟨rfl, rfl⟩)] | rw [ZW (by simp [lk, Za, Od.v, w0, w1, u1, ha, hr, hd, Yy, rdS, run98, q]; exact rfl)] | rw [ZS]))
          simp [Za, lk]
        have hdef : Go.Sort.scanUp (fun x => lt x d[a]!) d j i = Go.Sort.scanUp (fun x => lt x d[a]!) d j I := by
          rw [Go.Sort.scanUp.eq_1 _ d j i, if_pos, hI]
          have hp2 : lt (el d i) (el d a) = _ := hp'
          unfold el at hp2
          simp [w0, hp2]
        have h3 := ih I j (by omega) hj (by omega)
        rw [Yj, hs, Yu, hdef]
        exact ⟨h3.1, by omega, by omega⟩
    · exact ih i j (by omega) hj hi

theorem down50a {H : ZY} {r g n a i : Nat} (hr : r < H.length) (hn : n ≤ 1000000) (ha : a < n) (hi1 : 1 ≤ i) (hi : i ≤ n) (d : Array V) (hd : d.size = n) : ∀ (j : Nat) (ex : Env), j < n →
    (∃ y, C X (.loop lp138_1) ((0, rw_ r g n) :: (1, .int .i64 a) :: (4, .func 98 [] []) :: (12, .int .i64 i) :: (13, .int .i64 j) :: ex) (hp H r g d) =
      some (.exit 2, [(0, rw_ r g n), (1, .int .i64 a), (4, .func 98 [] []), (12, .int .i64 i), (13, .int .i64 (Go.Sort.scanDown (fun x => !lt x d[a]!) d i j : Nat)), (66, y)], hp H r g d)) ∧ Go.Sort.scanDown (fun x => !lt x d[a]!) d i j ≤ j ∧ (i ≤ j + 1 → i ≤ Go.Sort.scanDown (fun x => !lt x d[a]!) d i j + 1) := by
  intro j
  induction j with
  | zero =>
    intro ex hj
    have w0 : ¬ i = 0 := by omega
    have w0' : ¬ (i : Int) ≤ 0 := by omega
    rw [Go.Sort.scanDown]
    refine ⟨?_, Nat.le_refl _, fun h => h⟩
    rw [Yj]
    unfold lp138_1
    (repeat (first | rw [ZB] | rw [Ze (by simp [go_sem, w0, w0']; exact ⟨rfl, rfl⟩)] | rw [ZR (by simp [lk, Za, Od.v, w0, w0']; exact rfl)] | rw [Zq] | rw [Zp] | rw [ZJ] | rw [ZU] | rw [ZK] | rw [ZT] | rw [ZM] | rw [ZL] | rw [ZC] | rw [Zs] | rw [Zt] | rw [Zi (by decide)] | rw [Zr] | rw [Zg] | rw [Zh] | rw [Zd (by decide)] | rw [ZX] | rw [ZV (by simp [go_sem, w0, w0']; exact ⟨rfl, rfl⟩)] | rw [ZW (by simp [lk, Za, Od.v, w0, w0']; exact rfl)] | rw [ZS]))
    rw [Yr]
    exact ⟨_, by simp [Za, lk]; exact rfl⟩
  | succ J ih =>
    intro ex hj
    obtain ⟨j, hJ⟩ : ∃ j, j = J + 1 := ⟨_, rfl⟩
    rw [← hJ]
    have hd1 : Go.Sort.scanDown (fun x => !lt x d[a]!) d i j = if (decide (i ≤ j) && ((fun x => !lt x d[a]!)) (el d j)) = true then Go.Sort.scanDown (fun x => !lt x d[a]!) d i J else j := by
      rw [hJ, Go.Sort.scanDown]; rfl
    have w1 : IntKind.i64.wrap ((j : Int) - 1) = (J : Int) := (by rw [wrap64 _ (by omega) (by omega)]; omega)
    have u1 : j < n := by omega
    rw [hd1]
    by_cases w0 : i ≤ j
    · cases hp' : lt (el d j) (el d a)
      · have q := lt_neg hp'
        have hs : C X lp138_1 ((0, rw_ r g n) :: (1, .int .i64 a) :: (4, .func 98 [] []) :: (12, .int .i64 i) :: (13, .int .i64 j) :: ex) (hp H r g d) = some (.norm, [(0, rw_ r g n), (1, .int .i64 a), (4, .func 98 [] []), (12, .int .i64 i), (13, .int .i64 J)], hp H r g d) := by
          unfold lp138_1
          (repeat (first | rw [ZB] | rw [Ze (by simp [go_sem, w0, w1, u1, ha, hr, hd, Yy, rdS, run98, q]; exact ⟨rfl, rfl⟩)] | rw [ZR (by simp [lk, Za, Od.v, w0, w1, u1, ha, hr, hd, Yy, rdS, run98, q]; exact rfl)] | rw [Zq] | rw [Zp] | rw [ZJ] | rw [ZU] | rw [ZK] | rw [ZT] | rw [ZM] | rw [ZL] | rw [ZC] | rw [Zs] | rw [Zt] | rw [Zi (by decide)] | rw [Zr] | rw [Zg] | rw [Zh] | rw [Zd (by decide)] | rw [ZX] | rw [ZV (by simp [go_sem, w0, w1, u1, ha, hr, hd, Yy, rdS, run98, q]; exact ⟨rfl, rfl⟩)] | rw [ZW (by simp [lk, Za, Od.v, w0, w1, u1, ha, hr, hd, Yy, rdS, run98, q]; exact rfl)] | rw [ZS]))
          simp [Za, lk]
        have h3 := ih [] (by omega)
        rw [if_pos (by unfold el at hp' ⊢; simp [w0, hp']), Yj, hs, Yu]
        exact ⟨h3.1, by omega, fun h => h3.2.2 (by omega)⟩
      · have q := lt_pos hp'
        rw [if_neg (by unfold el at hp' ⊢; simp [hp'])]
        refine ⟨?_, Nat.le_refl _, fun h => h⟩
        rw [Yj]
        unfold lp138_1
        (repeat (first | rw [ZB] | rw [Ze (by simp [go_sem, w0, w1, u1, ha, hr, hd, Yy, rdS, run98, q]; exact ⟨rfl, rfl⟩)] | rw [ZR (by simp [lk, Za, Od.v, w0, w1, u1, ha, hr, hd, Yy, rdS, run98, q]; exact rfl)] | rw [Zq] | rw [Zp] | rw [ZJ] | rw [ZU] | rw [ZK] | rw [ZT] | rw [ZM] | rw [ZL] | rw [ZC] | rw [Zs] | rw [Zt] | rw [Zi (by decide)] | rw [Zr] | rw [Zg] | rw [Zh] | rw [Zd (by decide)] | rw [ZX] | rw [ZV (by simp [go_sem, w0, w1, u1, ha, hr, hd, Yy, rdS, run98, q]; exact ⟨rfl, rfl⟩)] | rw [ZW (by simp [lk, Za, Od.v, w0, w1, u1, ha, hr, hd, Yy, rdS, run98, q]; exact rfl)] | rw [ZS]))
        rw [Yr]
        exact ⟨_, by simp [Za, lk]; exact rfl⟩
    · rw [if_neg (by simp [w0])]
      refine ⟨?_, Nat.le_refl _, fun h => h⟩
      rw [Yj]
      unfold lp138_1
      (repeat (first | rw [ZB] | rw [Ze (by simp [go_sem, w0]; exact ⟨rfl, rfl⟩)] | rw [ZR (by simp [lk, Za, Od.v, w0]; exact rfl)] | rw [Zq] | rw [Zp] | rw [ZJ] | rw [ZU] | rw [ZK] | rw [ZT] | rw [ZM] | rw [ZL] | rw [ZC] | rw [Zs] | rw [Zt] | rw [Zi (by decide)] | rw [Zr] | rw [Zg] | rw [Zh] | rw [Zd (by decide)] | rw [ZX] | rw [ZV (by simp [go_sem, w0]; exact ⟨rfl, rfl⟩)] | rw [ZW (by simp [lk, Za, Od.v, w0]; exact rfl)] | rw [ZS]))
      rw [Yr]
      exact ⟨_, by simp [Za, lk]; exact rfl⟩

theorem up50b {H : ZY} {r g n a : Nat} (hr : r < H.length) (hn : n ≤ 1000000) (ha : a < n) (d : Array V) (hd : d.size = n) : ∀ (k i j : Nat), j + 1 - i ≤ k → j < n → i ≤ n →
    (∃ y, C X (.loop lp138_3) [(0, rw_ r g n), (1, .int .i64 a), (4, .func 98 [] []), (12, .int .i64 i), (13, .int .i64 j)] (hp H r g d) =
      some (.exit 6, [(0, rw_ r g n), (1, .int .i64 a), (4, .func 98 [] []), (12, .int .i64 (Go.Sort.scanUp (fun x => lt x d[a]!) d j i : Nat)), (13, .int .i64 j), (120, y)], hp H r g d)) ∧ i ≤ Go.Sort.scanUp (fun x => lt x d[a]!) d j i ∧ (Go.Sort.scanUp (fun x => lt x d[a]!) d j i ≤ j + 1 ∨ Go.Sort.scanUp (fun x => lt x d[a]!) d j i = i) := by
  intro k
  induction k with
  | zero =>
    intro i j hk hj hi
    have w0 : ¬ i ≤ j := by omega
    rw [Go.Sort.scanUp, if_neg (by simp [w0])]
    refine ⟨?_, Nat.le_refl _, .inr rfl⟩
    rw [Yj]
    unfold lp138_3
    (repeat (first | rw [ZB] | rw [Ze (by simp [go_sem, w0]; exact ⟨rfl, rfl⟩)] | rw [ZR (by simp [lk, Za, Od.v, w0]; exact rfl)] | rw [Zq] | rw [Zp] | rw [ZJ] | rw [ZU] | rw [ZK] | rw [ZT] | rw [ZM] | rw [ZL] | rw [ZC] | rw [Zs] | rw [Zt] | rw [Zi (by decide)] | rw [Zr] | rw [Zg] | rw [Zh] | rw [Zd (by decide)] | rw [ZX] | rw [ZV (by simp [go_sem, w0]; exact ⟨rfl, rfl⟩)] | rw [ZW (by simp [lk, Za, Od.v, w0]; exact rfl)] | rw [ZS]))
    rw [Yr]
    exact ⟨_, by simp [Za, lk]; exact rfl⟩
  | succ k ih =>
    intro i j hk hj hi
    by_cases w0 : i ≤ j
    · obtain ⟨I, hI⟩ : ∃ I, I = i + 1 := ⟨_, rfl⟩
      have w1 : IntKind.i64.wrap ((i : Int) + 1) = (I : Int) := (by rw [wrap64 _ (by omega) (by omega)]; omega)
      have u1 : i < n := by omega
      cases hp' : lt (el d i) (el d a)
      · have q := lt_neg hp'
        have hdef : Go.Sort.scanUp (fun x => lt x d[a]!) d j i = i := by
          rw [Go.Sort.scanUp.eq_1 _ d j i, if_neg]
          have hp2 : lt (el d i) (el d a) = _ := hp'
          unfold el at hp2
          simp [hp2]
        rw [hdef]
        refine ⟨?_, Nat.le_refl _, .inr rfl⟩
        rw [Yj]
        unfold lp138_3
        (repeat (first | rw [ZB] | rw [Ze (by simp [go_sem, w0, w1, u1, ha, hr, hd, Yy, rdS, run98, q]; exact ⟨rfl, rfl⟩)] | rw [ZR (by simp [lk, Za, Od.v, w0, w1, u1, ha, hr, hd, Yy, rdS, run98, q]; exact rfl)] | rw [Zq] | rw [Zp] | rw [ZJ] | rw [ZU] | rw [ZK] | rw [ZT] | rw [ZM] | rw [ZL] | rw [ZC] | rw [Zs] | rw [Zt] | rw [Zi (by decide)] | rw [Zr] | rw [Zg] | rw [Zh] | rw [Zd (by decide)] | rw [ZX] | rw [ZV (by simp [go_sem, w0, w1, u1, ha, hr, hd, Yy, rdS, run98, q]; exact ⟨rfl, rfl⟩)] | rw [ZW (by simp [lk, Za, Od.v, w0, w1, u1, ha, hr, hd, Yy, rdS, run98, q]; exact rfl)] | rw [ZS]))
        rw [Yr]
        exact ⟨_, by simp [Za, lk]; exact rfl⟩
      · have q := lt_pos hp'
        have hs : C X lp138_3 [(0, rw_ r g n), (1, .int .i64 a), (4, .func 98 [] []), (12, .int .i64 i), (13, .int .i64 j)] (hp H r g d) = some (.norm, [(0, rw_ r g n), (1, .int .i64 a), (4, .func 98 [] []), (12, .int .i64 I), (13, .int .i64 j)], hp H r g d) := by
          unfold lp138_3
          (repeat (first | rw [ZB] | rw [Ze (by simp [go_sem, w0, w1, u1, ha, hr, hd, Yy, rdS, run98, q]; exact ⟨rfl, rfl⟩)] | rw [ZR (by simp [lk, Za, Od.v, w0, w1, u1, ha, hr, hd, Yy, rdS, run98, q]; exact rfl)] | rw [Zq] | rw [Zp] | rw [ZJ] | rw [ZU] | rw [ZK] | rw [ZT] | rw [ZM] | rw [ZL] | rw [ZC] | rw [Zs] | rw [Zt] | rw [Zi (by decide)] | rw [Zr] | rw [Zg] | rw [Zh] | rw [Zd (by decide)] | rw [ZX] | rw [ZV (by simp [go_sem, w0, w1, u1, ha, hr, hd, Yy, rdS, run98, q]; exact ⟨rfl, rfl⟩)] | rw [ZW (by simp [lk, Za, Od.v, w0, w1, u1, ha, hr, hd, Yy, rdS, run98, q]; exact rfl)] | rw [ZS]))
          simp [Za, lk]
        have hdef : Go.Sort.scanUp (fun x => lt x d[a]!) d j i = Go.Sort.scanUp (fun x => lt x d[a]!) d j I := by
          rw [Go.Sort.scanUp.eq_1 _ d j i, if_pos, hI]
          have hp2 : lt (el d i) (el d a) = _ := hp'
          unfold el at hp2
          simp [w0, hp2]
        have h3 := ih I j (by omega) hj (by omega)
        rw [Yj, hs, Yu, hdef]
        exact ⟨h3.1, by omega, by omega⟩
    · exact ih i j (by omega) hj hi

theorem down50b {H : ZY} {r g n a i : Nat} (hr : r < H.length) (hn : n ≤ 1000000) (ha : a < n) (hi1 : 1 ≤ i) (hi : i ≤ n) (d : Array V) (hd : d.size = n) : ∀ (j : Nat) (ex : Env), j < n →
    (∃ y, C X (.loop lp138_4) ((0, rw_ r g n) :: (1, .int .i64 a) :: (4, .func 98 [] []) :: (12, .int .i64 i) :: (13, .int .i64 j) :: ex) (hp H r g d) =
      some (.exit 8, [(0, rw_ r g n), (1, .int .i64 a), (4, .func 98 [] []), (12, .int .i64 i), (13, .int .i64 (Go.Sort.scanDown (fun x => !lt x d[a]!) d i j : Nat)), (139, y)], hp H r g d)) ∧ Go.Sort.scanDown (fun x => !lt x d[a]!) d i j ≤ j ∧ (i ≤ j + 1 → i ≤ Go.Sort.scanDown (fun x => !lt x d[a]!) d i j + 1) := by
  intro j
  induction j with
  | zero =>
    intro ex hj
    have w0 : ¬ i = 0 := by omega
    have w0' : ¬ (i : Int) ≤ 0 := by omega
    rw [Go.Sort.scanDown]
    refine ⟨?_, Nat.le_refl _, fun h => h⟩
    rw [Yj]
    unfold lp138_4
    (repeat (first | rw [ZB] | rw [Ze (by simp [go_sem, w0, w0']; exact ⟨rfl, rfl⟩)] | rw [ZR (by simp [lk, Za, Od.v, w0, w0']; exact rfl)] | rw [Zq] | rw [Zp] | rw [ZJ] | rw [ZU] | rw [ZK] | rw [ZT] | rw [ZM] | rw [ZL] | rw [ZC] | rw [Zs] | rw [Zt] | rw [Zi (by decide)] | rw [Zr] | rw [Zg] | rw [Zh] | rw [Zd (by decide)] | rw [ZX] | rw [ZV (by simp [go_sem, w0, w0']; exact ⟨rfl, rfl⟩)] | rw [ZW (by simp [lk, Za, Od.v, w0, w0']; exact rfl)] | rw [ZS]))
    rw [Yr]
    exact ⟨_, by simp [Za, lk]; exact rfl⟩
  | succ J ih =>
    intro ex hj
    obtain ⟨j, hJ⟩ : ∃ j, j = J + 1 := ⟨_, rfl⟩
    rw [← hJ]
    have hd1 : Go.Sort.scanDown (fun x => !lt x d[a]!) d i j = if (decide (i ≤ j) && ((fun x => !lt x d[a]!)) (el d j)) = true then Go.Sort.scanDown (fun x => !lt x d[a]!) d i J else j := by
      rw [hJ, Go.Sort.scanDown]; rfl
    have w1 : IntKind.i64.wrap ((j : Int) - 1) = (J : Int) := (by rw [wrap64 _ (by omega) (by omega)]; omega)
    have u1 : j < n := by omega
    rw [hd1]
    by_cases w0 : i ≤ j
    · cases hp' : lt (el d j) (el d a)
      · have q := lt_neg hp'
        have hs : C X lp138_4 ((0, rw_ r g n) :: (1, .int .i64 a) :: (4, .func 98 [] []) :: (12, .int .i64 i) :: (13, .int .i64 j) :: ex) (hp H r g d) = some (.norm, [(0, rw_ r g n), (1, .int .i64 a), (4, .func 98 [] []), (12, .int .i64 i), (13, .int .i64 J)], hp H r g d) := by
          unfold lp138_4
          (repeat (first | rw [ZB] | rw [Ze (by simp [go_sem, w0, w1, u1, ha, hr, hd, Yy, rdS, run98, q]; exact ⟨rfl, rfl⟩)] | rw [ZR (by simp [lk, Za, Od.v, w0, w1, u1, ha, hr, hd, Yy, rdS, run98, q]; exact rfl)] | rw [Zq] | rw [Zp] | rw [ZJ] | rw [ZU] | rw [ZK] | rw [ZT] | rw [ZM] | rw [ZL] | rw [ZC] | rw [Zs] | rw [Zt] | rw [Zi (by decide)] | rw [Zr] | rw [Zg] | rw [Zh] | rw [Zd (by decide)] | rw [ZX] | rw [ZV (by simp [go_sem, w0, w1, u1, ha, hr, hd, Yy, rdS, run98, q]; exact ⟨rfl, rfl⟩)] | rw [ZW (by simp [lk, Za, Od.v, w0, w1, u1, ha, hr, hd, Yy, rdS, run98, q]; exact rfl)] | rw [ZS]))
          simp [Za, lk]
        have h3 := ih [] (by omega)
        rw [if_pos (by unfold el at hp' ⊢; simp [w0, hp']), Yj, hs, Yu]
        exact ⟨h3.1, by omega, fun h => h3.2.2 (by omega)⟩
      · have q := lt_pos hp'
        rw [if_neg (by unfold el at hp' ⊢; simp [hp'])]
        refine ⟨?_, Nat.le_refl _, fun h => h⟩
        rw [Yj]
        unfold lp138_4
        (repeat (first | rw [ZB] | rw [Ze (by simp [go_sem, w0, w1, u1, ha, hr, hd, Yy, rdS, run98, q]; exact ⟨rfl, rfl⟩)] | rw [ZR (by simp [lk, Za, Od.v, w0, w1, u1, ha, hr, hd, Yy, rdS, run98, q]; exact rfl)] | rw [Zq] | rw [Zp] | rw [ZJ] | rw [ZU] | rw [ZK] | rw [ZT] | rw [ZM] | rw [ZL] | rw [ZC] | rw [Zs] | rw [Zt] | rw [Zi (by decide)] | rw [Zr] | rw [Zg] | rw [Zh] | rw [Zd (by decide)] | rw [ZX] | rw [ZV (by simp [go_sem, w0, w1, u1, ha, hr, hd, Yy, rdS, run98, q]; exact ⟨rfl, rfl⟩)] | rw [ZW (by simp [lk, Za, Od.v, w0, w1, u1, ha, hr, hd, Yy, rdS, run98, q]; exact rfl)] | rw [ZS]))
        rw [Yr]
        exact ⟨_, by simp [Za, lk]; exact rfl⟩
    · rw [if_neg (by simp [w0])]
      refine ⟨?_, Nat.le_refl _, fun h => h⟩
      rw [Yj]
      unfold lp138_4
      (repeat (first | rw [ZB] | rw [Ze (by simp [go_sem, w0]; exact ⟨rfl, rfl⟩)] | rw [ZR (by simp [lk, Za, Od.v, w0]; exact rfl)] | rw [Zq] | rw [Zp] | rw [ZJ] | rw [ZU] | rw [ZK] | rw [ZT] | rw [ZM] | rw [ZL] | rw [ZC] | rw [Zs] | rw [Zt] | rw [Zi (by decide)] | rw [Zr] | rw [Zg] | rw [Zh] | rw [Zd (by decide)] | rw [ZX] | rw [ZV (by simp [go_sem, w0]; exact ⟨rfl, rfl⟩)] | rw [ZW (by simp [lk, Za, Od.v, w0]; exact rfl)] | rw [ZS]))
      rw [Yr]
      exact ⟨_, by simp [Za, lk]; exact rfl⟩
end Go.Proofs.YtebjndbigoddnaaDoor
namespace Go.Proofs.YtebjndbigoddnaaDoor
set_option linter.unusedVariables false
set_option linter.unusedSimpArgs false
set_option maxRecDepth 10000
theorem loop137 {H : ZY} {r g n a : Nat} (hr : r < H.length) (hn : n ≤ 1000000) (ha : a < n) : ∀ (k i j : Nat) (d : Array V), j + 1 - i ≤ k → 1 ≤ i → i ≤ n → j < n → d.size = n →
    ∃ e', C X (.loop lp137_0) [(0, rw_ r g n), (1, .int .i64 a), (4, .func 98 [] []), (11, .int .i64 i), (12, .int .i64 j)] (hp H r g d) = some (.exit 0, e', hp H r g (Go.Sort.partEqLoop lt a i j d).2) ∧ lk e' 11 = .int .i64 (Go.Sort.partEqLoop lt a i j d).1 := by
  intro k
  induction k with
  | zero =>
    intro i j d hk h1 hi hj hd
    obtain ⟨⟨y, c1⟩, b1, b2⟩ := up49 (H := H) (r := r) (g := g) (n := n) (a := a) hr hn ha d hd n i j (by omega) hj hi
    have hdef : Go.Sort.partEqLoop lt a i j d = (Go.Sort.scanUp (fun x => !lt d[a]! x) d j i, d) := by
      rw [Go.Sort.partEqLoop]
      have h2 := (down49 (H := H) (r := r) (g := g) (n := n) (a := a) hr hn ha (i := Go.Sort.scanUp (fun x => !lt d[a]! x) d j i) (by omega) (by omega) d hd j [] hj).2
      try simp only
      rw [if_pos (by omega)]
    rw [hdef]
    generalize Go.Sort.scanUp (fun x => !lt d[a]! x) d j i = i2 at c1 b1 b2
    obtain ⟨⟨y2, c2⟩, b3, b4⟩ := down49 (H := H) (r := r) (g := g) (n := n) (a := a) hr hn ha (i := i2) (by omega) (by omega) d hd j [(47, y)] hj
    generalize Go.Sort.scanDown (fun x => lt d[a]! x) d i2 j = j2 at c2 b3 b4
    have w0 : j2 < i2 := by omega
    rw [Yj]
    unfold lp137_0
    (repeat (first | rw [ZB] | rw [Ze (by simp [ZN, ZE, ZG, ZH, Zy, Zj, Zw, Zm, Zo, Zb, Zc, Zn, Zz, ZA, ZI, ↓Zl, Zx, Zk, ZF, Zq, Zp, ZZ, ZD, Yk, put, lk, Od.v, Za, Zf, Zu, Yn, Yc, Yd, Ye, Yo, Yl, DV.isU, DV.cells, hget, ZO, Yb, ZP, Zv, splice, DV.one, ZQ, mat, Ya, Ym]; exact ⟨rfl, rfl⟩)] | rw [ZR (by simp [lk, Za, Od.v]; exact rfl)] | rw [Zq] | rw [Zp] | rw [ZJ] | rw [ZU] | rw [ZK] | rw [ZT] | rw [ZM] | rw [ZL] | rw [ZC] | rw [Zs] | rw [Zt] | rw [Zi (by decide)] | rw [Zr] | rw [Zg] | rw [Zh] | rw [Zd (by decide)] | rw [ZX] | rw [ZV (by simp [ZN, ZE, ZG, ZH, Zy, Zj, Zw, Zm, Zo, Zb, Zc, Zn, Zz, ZA, ZI, ↓Zl, Zx, Zk, ZF, Zq, Zp, ZZ, ZD, Yk, put, lk, Od.v, Za, Zf, Zu, Yn, Yc, Yd, Ye, Yo, Yl, DV.isU, DV.cells, hget, ZO, Yb, ZP, Zv, splice, DV.one, ZQ, mat, Ya, Ym]; exact ⟨rfl, rfl⟩)] | rw [ZW (by simp [lk, Za, Od.v]; exact rfl)] | rw [ZS]))
    rw [c1]
    (repeat (first | rw [ZB] | rw [Ze (by simp [ZN, ZE, ZG, ZH, Zy, Zj, Zw, Zm, Zo, Zb, Zc, Zn, Zz, ZA, ZI, ↓Zl, Zx, Zk, ZF, Zq, Zp, ZZ, ZD, Yk, put, lk, Od.v, Za, Zf, Zu, Yn, Yc, Yd, Ye, Yo, Yl, DV.isU, DV.cells, hget, ZO, Yb, ZP, Zv, splice, DV.one, ZQ, mat, Ya, Ym]; exact ⟨rfl, rfl⟩)] | rw [ZR (by simp [lk, Za, Od.v]; exact rfl)] | rw [Zq] | rw [Zp] | rw [ZJ] | rw [ZU] | rw [ZK] | rw [ZT] | rw [ZM] | rw [ZL] | rw [ZC] | rw [Zs] | rw [Zt] | rw [Zi (by decide)] | rw [Zr] | rw [Zg] | rw [Zh] | rw [Zd (by decide)] | rw [ZX] | rw [ZV (by simp [ZN, ZE, ZG, ZH, Zy, Zj, Zw, Zm, Zo, Zb, Zc, Zn, Zz, ZA, ZI, ↓Zl, Zx, Zk, ZF, Zq, Zp, ZZ, ZD, Yk, put, lk, Od.v, Za, Zf, Zu, Yn, Yc, Yd, Ye, Yo, Yl, DV.isU, DV.cells, hget, ZO, Yb, ZP, Zv, splice, DV.one, ZQ, mat, Ya, Ym]; exact ⟨rfl, rfl⟩)] | rw [ZW (by simp [lk, Za, Od.v]; exact rfl)] | rw [ZS]))
    (try simp only [Za, List.map_cons, List.map_nil, lk, reduceIte, Nat.reduceEqDiff, Nat.zero_ne_one, Nat.one_ne_zero])
    rw [c2]
    (repeat (first | rw [ZB] | rw [Ze (by simp [ZN, ZE, ZG, ZH, Zy, Zj, Zw, Zm, Zo, Zb, Zc, Zn, Zz, ZA, ZI, ↓Zl, Zx, Zk, ZF, Zq, Zp, ZZ, ZD, Yk, put, lk, Od.v, Za, Zf, Zu, Yn, Yc, Yd, Ye, Yo, Yl, DV.isU, DV.cells, hget, ZO, Yb, ZP, Zv, splice, DV.one, ZQ, mat, Ya, Ym, w0]; exact ⟨rfl, rfl⟩)] | rw [ZR (by simp [lk, Za, Od.v, w0]; exact rfl)] | rw [Zq] | rw [Zp] | rw [ZJ] | rw [ZU] | rw [ZK] | rw [ZT] | rw [ZM] | rw [ZL] | rw [ZC] | rw [Zs] | rw [Zt] | rw [Zi (by decide)] | rw [Zr] | rw [Zg] | rw [Zh] | rw [Zd (by decide)] | rw [ZX] | rw [ZV (by simp [ZN, ZE, ZG, ZH, Zy, Zj, Zw, Zm, Zo, Zb, Zc, Zn, Zz, ZA, ZI, ↓Zl, Zx, Zk, ZF, Zq, Zp, ZZ, ZD, Yk, put, lk, Od.v, Za, Zf, Zu, Yn, Yc, Yd, Ye, Yo, Yl, DV.isU, DV.cells, hget, ZO, Yb, ZP, Zv, splice, DV.one, ZQ, mat, Ya, Ym, w0]; exact ⟨rfl, rfl⟩)] | rw [ZW (by simp [lk, Za, Od.v, w0]; exact rfl)] | rw [ZS]))
    rw [Yr]
    exact ⟨_, rfl, by simp [Za, lk]⟩
  | succ k ih =>
    intro i j d hk h1 hi hj hd
    obtain ⟨⟨y, c1⟩, b1, b2⟩ := up49 (H := H) (r := r) (g := g) (n := n) (a := a) hr hn ha d hd n i j (by omega) hj hi
    have hdef : Go.Sort.partEqLoop lt a i j d = if Go.Sort.scanUp (fun x => !lt d[a]! x) d j i > Go.Sort.scanDown (fun x => lt d[a]! x) d (Go.Sort.scanUp (fun x => !lt d[a]! x) d j i) j then (Go.Sort.scanUp (fun x => !lt d[a]! x) d j i, d) else Go.Sort.partEqLoop lt a (Go.Sort.scanUp (fun x => !lt d[a]! x) d j i + 1) (Go.Sort.scanDown (fun x => lt d[a]! x) d (Go.Sort.scanUp (fun x => !lt d[a]! x) d j i) j - 1) (Go.Sort.swp d (Go.Sort.scanUp (fun x => !lt d[a]! x) d j i) (Go.Sort.scanDown (fun x => lt d[a]! x) d (Go.Sort.scanUp (fun x => !lt d[a]! x) d j i) j)) := by
      rw [Go.Sort.partEqLoop]
      have h2 := (down49 (H := H) (r := r) (g := g) (n := n) (a := a) hr hn ha (i := Go.Sort.scanUp (fun x => !lt d[a]! x) d j i) (by omega) (by omega) d hd j [] hj).2
      try simp only
      split
      · rfl
      · rw [dif_pos (by omega)]
    rw [hdef]
    generalize Go.Sort.scanUp (fun x => !lt d[a]! x) d j i = i2 at c1 b1 b2 ⊢
    obtain ⟨⟨y2, c2⟩, b3, b4⟩ := down49 (H := H) (r := r) (g := g) (n := n) (a := a) hr hn ha (i := i2) (by omega) (by omega) d hd j [(47, y)] hj
    generalize Go.Sort.scanDown (fun x => lt d[a]! x) d i2 j = j2 at c2 b3 b4 ⊢
    by_cases w0 : j2 < i2
    · rw [if_pos w0, Yj]
      unfold lp137_0
      (repeat (first | rw [ZB] | rw [Ze (by simp [ZN, ZE, ZG, ZH, Zy, Zj, Zw, Zm, Zo, Zb, Zc, Zn, Zz, ZA, ZI, ↓Zl, Zx, Zk, ZF, Zq, Zp, ZZ, ZD, Yk, put, lk, Od.v, Za, Zf, Zu, Yn, Yc, Yd, Ye, Yo, Yl, DV.isU, DV.cells, hget, ZO, Yb, ZP, Zv, splice, DV.one, ZQ, mat, Ya, Ym]; exact ⟨rfl, rfl⟩)] | rw [ZR (by simp [lk, Za, Od.v]; exact rfl)] | rw [Zq] | rw [Zp] | rw [ZJ] | rw [ZU] | rw [ZK] | rw [ZT] | rw [ZM] | rw [ZL] | rw [ZC] | rw [Zs] | rw [Zt] | rw [Zi (by decide)] | rw [Zr] | rw [Zg] | rw [Zh] | rw [Zd (by decide)] | rw [ZX] | rw [ZV (by simp [ZN, ZE, ZG, ZH, Zy, Zj, Zw, Zm, Zo, Zb, Zc, Zn, Zz, ZA, ZI, ↓Zl, Zx, Zk, ZF, Zq, Zp, ZZ, ZD, Yk, put, lk, Od.v, Za, Zf, Zu, Yn, Yc, Yd, Ye, Yo, Yl, DV.isU, DV.cells, hget, ZO, Yb, ZP, Zv, splice, DV.one, ZQ, mat, Ya, Ym]; exact ⟨rfl, rfl⟩)] | rw [ZW (by simp [lk, Za, Od.v]; exact rfl)] | rw [ZS]))
      rw [c1]
      (repeat (first | rw [ZB] | rw [Ze (by simp [ZN, ZE, ZG, ZH, Zy, Zj, Zw, Zm, Zo, Zb, Zc, Zn, Zz, ZA, ZI, ↓Zl, Zx, Zk, ZF, Zq, Zp, ZZ, ZD, Yk, put, lk, Od.v, Za, Zf, Zu, Yn, Yc, Yd, Ye, Yo, Yl, DV.isU, DV.cells, hget, ZO, Yb, ZP, Zv, splice, DV.one, ZQ, mat, Ya, Ym]; exact ⟨rfl, rfl⟩)] | rw [ZR (by simp [lk, Za, Od.v]; exact rfl)] | rw [Zq] | rw [Zp] | rw [ZJ] | rw [ZU] | rw [ZK] | rw [ZT] | rw [ZM] | rw [ZL] | rw [ZC] | rw [Zs] | rw [Zt] | rw [Zi (by decide)] | rw [Zr] | rw [Zg] | rw [Zh] | rw [Zd (by decide)] | rw [ZX] | rw [ZV (by simp [ZN, ZE, ZG, ZH, Zy, Zj, Zw, Zm, Zo, Zb, Zc, Zn, Zz, ZA, ZI, ↓Zl, Zx, Zk, ZF, Zq, Zp, ZZ, ZD, Yk, put, lk, Od.v, Za, Zf, Zu, Yn, Yc, Yd, Ye, Yo, Yl, DV.isU, DV.cells, hget, ZO, Yb, ZP, Zv, splice, DV.one, ZQ, mat, Ya, Ym]; exact ⟨rfl, rfl⟩)] | rw [ZW (by simp [lk, Za, Od.v]; exact rfl)] | rw [ZS]))
      (try simp only [Za, List.map_cons, List.map_nil, lk, reduceIte, Nat.reduceEqDiff, Nat.zero_ne_one, Nat.one_ne_zero])
      rw [c2]
      (repeat (first | rw [ZB] | rw [Ze (by simp [ZN, ZE, ZG, ZH, Zy, Zj, Zw, Zm, Zo, Zb, Zc, Zn, Zz, ZA, ZI, ↓Zl, Zx, Zk, ZF, Zq, Zp, ZZ, ZD, Yk, put, lk, Od.v, Za, Zf, Zu, Yn, Yc, Yd, Ye, Yo, Yl, DV.isU, DV.cells, hget, ZO, Yb, ZP, Zv, splice, DV.one, ZQ, mat, Ya, Ym, w0]; exact ⟨rfl, rfl⟩)] | rw [ZR (by simp [lk, Za, Od.v, w0]; exact rfl)] | rw [Zq] | rw [Zp] | rw [ZJ] | rw [ZU] | rw [ZK] | rw [ZT] | rw [ZM] | rw [ZL] | rw [ZC] | rw [Zs] | rw [Zt] | rw [Zi (by decide)] | rw [Zr] | rw [Zg] | rw [Zh] | rw [Zd (by decide)] | rw [ZX] | rw [ZV (by simp [ZN, ZE, ZG, ZH, Zy, Zj, Zw, Zm, Zo, Zb, Zc, Zn, Zz, ZA, ZI, ↓Zl, Zx, Zk, ZF, Zq, Zp, ZZ, ZD, Yk, put, lk, Od.v, Za, Zf, Zu, Yn, Yc, Yd, Ye, Yo, Yl, DV.isU, DV.cells, hget, ZO, Yb, ZP, Zv, splice, DV.one, ZQ, mat, Ya, Ym, w0]; exact ⟨rfl, rfl⟩)] | rw [ZW (by simp [lk, Za, Od.v, w0]; exact rfl)] | rw [ZS]))
      rw [Yr]
      exact ⟨_, rfl, by simp [Za, lk]⟩
    · rw [if_neg w0]
      obtain ⟨I, hI⟩ : ∃ I, I = i2 + 1 := ⟨_, rfl⟩
      obtain ⟨J, hJ⟩ : ∃ J, J = j2 - 1 := ⟨_, rfl⟩
      have w1 : IntKind.i64.wrap ((i2 : Int) + 1) = (I : Int) := (by rw [wrap64 _ (by omega) (by omega)]; omega)
      have w2 : IntKind.i64.wrap ((j2 : Int) - 1) = (J : Int) := (by rw [wrap64 _ (by omega) (by omega)]; omega)
      have u1 : i2 < n := by omega
      have u2 : j2 < n := by omega
      have hs : C X lp137_0 [(0, rw_ r g n), (1, .int .i64 a), (4, .func 98 [] []), (11, .int .i64 i), (12, .int .i64 j)] (hp H r g d) = some (.norm, [(0, rw_ r g n), (1, .int .i64 a), (4, .func 98 [] []), (11, .int .i64 I), (12, .int .i64 J)], hp H r g (Go.Sort.swp d i2 j2)) := by
        unfold lp137_0
        rw [swp_upd]
        (repeat (first | rw [ZB] | rw [Ze (by simp [ZN, ZE, ZG, ZH, Zy, Zj, Zw, Zm, Zo, Zb, Zc, Zn, Zz, ZA, ZI, ↓Zl, Zx, Zk, ZF, Zq, Zp, ZZ, ZD, Yk, put, lk, Od.v, Za, Zf, Zu, Yn, Yc, Yd, Ye, Yo, Yl, DV.isU, DV.cells, hget, ZO, Yb, ZP, Zv, splice, DV.one, ZQ, mat, Ya, Ym]; exact ⟨rfl, rfl⟩)] | rw [ZR (by simp [lk, Za, Od.v]; exact rfl)] | rw [Zq] | rw [Zp] | rw [ZJ] | rw [ZU] | rw [ZK] | rw [ZT] | rw [ZM] | rw [ZL] | rw [ZC] | rw [Zs] | rw [Zt] | rw [Zi (by decide)] | rw [Zr] | rw [Zg] | rw [Zh] | rw [Zd (by decide)] | rw [ZX] | rw [ZV (by simp [ZN, ZE, ZG, ZH, Zy, Zj, Zw, Zm, Zo, Zb, Zc, Zn, Zz, ZA, ZI, ↓Zl, Zx, Zk, ZF, Zq, Zp, ZZ, ZD, Yk, put, lk, Od.v, Za, Zf, Zu, Yn, Yc, Yd, Ye, Yo, Yl, DV.isU, DV.cells, hget, ZO, Yb, ZP, Zv, splice, DV.one, ZQ, mat, Ya, Ym]; exact ⟨rfl, rfl⟩)] | rw [ZW (by simp [lk, Za, Od.v]; exact rfl)] | rw [ZS]))
        rw [c1]
        (repeat (first | rw [ZB] | rw [Ze (by simp [ZN, ZE, ZG, ZH, Zy, Zj, Zw, Zm, Zo, Zb, Zc, Zn, Zz, ZA, ZI, ↓Zl, Zx, Zk, ZF, Zq, Zp, ZZ, ZD, Yk, put, lk, Od.v, Za, Zf, Zu, Yn, Yc, Yd, Ye, Yo, Yl, DV.isU, DV.cells, hget, ZO, Yb, ZP, Zv, splice, DV.one, ZQ, mat, Ya, Ym]; exact ⟨rfl, rfl⟩)] | rw [ZR (by simp [lk, Za, Od.v]; exact rfl)] | rw [Zq] | rw [Zp] | rw [ZJ] | rw [ZU] | rw [ZK] | rw [ZT] | rw [ZM] | rw [ZL] | rw [ZC] | rw [Zs] | rw [Zt] | rw [Zi (by decide)] | rw [Zr] | rw [Zg] | rw [Zh] | rw [Zd (by decide)] | rw [ZX] | rw [ZV (by simp [ZN, ZE, ZG, ZH, Zy, Zj, Zw, Zm, Zo, Zb, Zc, Zn, Zz, ZA, ZI, ↓Zl, Zx, Zk, ZF, Zq, Zp, ZZ, ZD, Yk, put, lk, Od.v, Za, Zf, Zu, Yn, Yc, Yd, Ye, Yo, Yl, DV.isU, DV.cells, hget, ZO, Yb, ZP, Zv, splice, DV.one, ZQ, mat, Ya, Ym]; exact ⟨rfl, rfl⟩)] | rw [ZW (by simp [lk, Za, Od.v]; exact rfl)] | rw [ZS]))
        (try simp only [Za, List.map_cons, List.map_nil, lk, reduceIte, Nat.reduceEqDiff, Nat.zero_ne_one, Nat.one_ne_zero])
        rw [c2]
        (repeat (first | rw [ZB] | rw [Ze (by simp [ZN, ZE, ZG, ZH, Zy, Zj, Zw, Zm, Zo, Zb, Zc, Zn, Zz, ZA, ZI, ↓Zl, Zx, Zk, ZF, Zq, Zp, ZZ, ZD, Yk, put, lk, Od.v, Za, Zf, Zu, Yn, Yc, Yd, Ye, Yo, Yl, DV.isU, DV.cells, hget, ZO, Yb, ZP, Zv, splice, DV.one, ZQ, mat, Ya, Ym, w0, w1, w2, u1, u2, hr, hd, Yy, rdS, wrS, Yh]; exact ⟨rfl, rfl⟩)] | rw [ZR (by simp [lk, Za, Od.v, w0, w1, w2, u1, u2, hr, hd, Yy, rdS, wrS, Yh]; exact rfl)] | rw [Zq] | rw [Zp] | rw [ZJ] | rw [ZU] | rw [ZK] | rw [ZT] | rw [ZM] | rw [ZL] | rw [ZC] | rw [Zs] | rw [Zt] | rw [Zi (by decide)] | rw [Zr] | rw [Zg] | rw [Zh] | rw [Zd (by decide)] | rw [ZX] | rw [ZV (by simp [ZN, ZE, ZG, ZH, Zy, Zj, Zw, Zm, Zo, Zb, Zc, Zn, Zz, ZA, ZI, ↓Zl, Zx, Zk, ZF, Zq, Zp, ZZ, ZD, Yk, put, lk, Od.v, Za, Zf, Zu, Yn, Yc, Yd, Ye, Yo, Yl, DV.isU, DV.cells, hget, ZO, Yb, ZP, Zv, splice, DV.one, ZQ, mat, Ya, Ym, w0, w1, w2, u1, u2, hr, hd, Yy, rdS, wrS, Yh]; exact ⟨rfl, rfl⟩)] | rw [ZW (by simp [lk, Za, Od.v, w0, w1, w2, u1, u2, hr, hd, Yy, rdS, wrS, Yh]; exact rfl)] | rw [ZS]))
        simp [Za, lk]
      rw [Yj, hs, Yu, ← hI, ← hJ]
      exact ih I J _ (by omega) (by omega) (by omega) (by omega) (by rw [swp_size, hd])
theorem run137 {H : ZY} {r g n a b p : Nat} (hr : r < H.length) (hn : n ≤ 1000000) (hab : a < b) (hb : b ≤ n) (hp' : p < n) (d : Array V) (hd : d.size = n) :
    E X 137 [rw_ r g n, .int .i64 a, .int .i64 b, .int .i64 p, .func 98 [] []] (hp H r g d) = some (.int .i64 (Go.Sort.partitionEqual lt d a b p).1, hp H r g (Go.Sort.partitionEqual lt d a b p).2) := by
  obtain ⟨i, hi⟩ : ∃ i, i = a + 1 := ⟨_, rfl⟩
  obtain ⟨j, hj⟩ : ∃ j, j = b - 1 := ⟨_, rfl⟩
  have w1 : IntKind.i64.wrap ((a : Int) + 1) = (i : Int) := (by rw [wrap64 _ (by omega) (by omega)]; omega)
  have w2 : IntKind.i64.wrap ((b : Int) - 1) = (j : Int) := (by rw [wrap64 _ (by omega) (by omega)]; omega)
  have u1 : a < n := by omega
  obtain ⟨e', c1, c2⟩ := loop137 (H := H) (r := r) (g := g) (n := n) (a := a) hr hn (by omega) n i j (Go.Sort.swp d a p) (by omega) (by omega) (by omega) (by omega) (by rw [swp_size, hd])
  have hdef : Go.Sort.partitionEqual lt d a b p = Go.Sort.partEqLoop lt a i j (Go.Sort.swp d a p) := by rw [Go.Sort.partitionEqual, hi, hj]
  rw [hdef]
  generalize Go.Sort.partEqLoop lt a i j (Go.Sort.swp d a p) = o at c1 c2 ⊢
  rw [swp_upd] at c1
  rw [Yt (X := X) _ b137 _ rfl rfl]; unfold b137
  (repeat (first | rw [ZB] | rw [Ze (by simp [ZN, ZE, ZG, ZH, Zy, Zj, Zw, Zm, Zo, Zb, Zc, Zn, Zz, ZA, ZI, ↓Zl, Zx, Zk, ZF, Zq, Zp, ZZ, ZD, Yk, put, lk, Od.v, Za, Zf, Zu, Yn, Yc, Yd, Ye, Yo, Yl, DV.isU, DV.cells, hget, ZO, Yb, ZP, Zv, splice, DV.one, ZQ, mat, Ya, Ym, w1, w2, u1, hp', hr, hd, Yy, rdS, wrS, Yh]; exact ⟨rfl, rfl⟩)] | rw [ZR (by simp [lk, Za, Od.v, w1, w2, u1, hp', hr, hd, Yy, rdS, wrS, Yh]; exact rfl)] | rw [Zq] | rw [Zp] | rw [ZJ] | rw [ZU] | rw [ZK] | rw [ZT] | rw [ZM] | rw [ZL] | rw [ZC] | rw [Zs] | rw [Zt] | rw [Zi (by decide)] | rw [Zr] | rw [Zg] | rw [Zh] | rw [Zd (by decide)] | rw [ZX] | rw [ZV (by simp [ZN, ZE, ZG, ZH, Zy, Zj, Zw, Zm, Zo, Zb, Zc, Zn, Zz, ZA, ZI, ↓Zl, Zx, Zk, ZF, Zq, Zp, ZZ, ZD, Yk, put, lk, Od.v, Za, Zf, Zu, Yn, Yc, Yd, Ye, Yo, Yl, DV.isU, DV.cells, hget, ZO, Yb, ZP, Zv, splice, DV.one, ZQ, mat, Ya, Ym, w1, w2, u1, hp', hr, hd, Yy, rdS, wrS, Yh]; exact ⟨rfl, rfl⟩)] | rw [ZW (by simp [lk, Za, Od.v, w1, w2, u1, hp', hr, hd, Yy, rdS, wrS, Yh]; exact rfl)] | rw [ZS]))
  (try simp only [Za, List.map_cons, List.map_nil, lk, reduceIte, Nat.reduceEqDiff, Nat.zero_ne_one, Nat.one_ne_zero])
  rw [c1]
  (repeat (first | rw [ZB] | rw [Ze (by simp [ZN, ZE, ZG, ZH, Zy, Zj, Zw, Zm, Zo, Zb, Zc, Zn, Zz, ZA, ZI, ↓Zl, Zx, Zk, ZF, Zq, Zp, ZZ, ZD, Yk, put, lk, Od.v, Za, Zf, Zu, Yn, Yc, Yd, Ye, Yo, Yl, DV.isU, DV.cells, hget, ZO, Yb, ZP, Zv, splice, DV.one, ZQ, mat, Ya, Ym, c2]; exact ⟨rfl, rfl⟩)] | rw [ZR (by simp [lk, Za, Od.v, c2]; exact rfl)] | rw [Zq] | rw [Zp] | rw [ZJ] | rw [ZU] | rw [ZK] | rw [ZT] | rw [ZM] | rw [ZL] | rw [ZC] | rw [Zs] | rw [Zt] | rw [Zi (by decide)] | rw [Zr] | rw [Zg] | rw [Zh] | rw [Zd (by decide)] | rw [ZX] | rw [ZV (by simp [ZN, ZE, ZG, ZH, Zy, Zj, Zw, Zm, Zo, Zb, Zc, Zn, Zz, ZA, ZI, ↓Zl, Zx, Zk, ZF, Zq, Zp, ZZ, ZD, Yk, put, lk, Od.v, Za, Zf, Zu, Yn, Yc, Yd, Ye, Yo, Yl, DV.isU, DV.cells, hget, ZO, Yb, ZP, Zv, splice, DV.one, ZQ, mat, Ya, Ym, c2]; exact ⟨rfl, rfl⟩)] | rw [ZW (by simp [lk, Za, Od.v, c2]; exact rfl)] | rw [ZS]))
  simp only [Yf, Yq, Za, List.map_cons, List.map_nil, lk, reduceIte, Nat.reduceEqDiff, Option.map_some, c2]
  rw [fin_len1 (by rw [hp_len, hp_len]) rfl]
theorem loop138 {H : ZY} {r g n a : Nat} (hr : r < H.length) (hn : n ≤ 1000000) (ha : a < n) : ∀ (k i j : Nat) (d : Array V), j + 1 - i ≤ k → 1 ≤ i → i ≤ n → j < n → d.size = n →
    (∃ e', C X (.loop lp138_2) [(0, rw_ r g n), (1, .int .i64 a), (4, .func 98 [] []), (12, .int .i64 i), (13, .int .i64 j)] (hp H r g d) = some (.exit 4, e', hp H r g (Go.Sort.partLoop lt a i j d).2) ∧ lk e' 0 = rw_ r g n ∧ lk e' 1 = .int .i64 a ∧ lk e' 13 = .int .i64 (Go.Sort.partLoop lt a i j d).1) ∧ (Go.Sort.partLoop lt a i j d).1 < n ∧ (Go.Sort.partLoop lt a i j d).2.size = n := by
  intro k
  induction k with
  | zero =>
    intro i j d hk h1 hi hj hd
    obtain ⟨⟨y, c1⟩, b1, b2⟩ := up50b (H := H) (r := r) (g := g) (n := n) (a := a) hr hn ha d hd n i j (by omega) hj hi
    have hdef : Go.Sort.partLoop lt a i j d = (Go.Sort.scanDown (fun x => !lt x d[a]!) d (Go.Sort.scanUp (fun x => lt x d[a]!) d j i) j, d) := by
      rw [Go.Sort.partLoop]
      have h2 := (down50b (H := H) (r := r) (g := g) (n := n) (a := a) hr hn ha (i := Go.Sort.scanUp (fun x => lt x d[a]!) d j i) (by omega) (by omega) d hd j [] hj).2
      try simp only
      rw [if_pos (by omega)]
    rw [hdef]
    generalize Go.Sort.scanUp (fun x => lt x d[a]!) d j i = i2 at c1 b1 b2
    obtain ⟨⟨y2, c2⟩, b3, b4⟩ := down50b (H := H) (r := r) (g := g) (n := n) (a := a) hr hn ha (i := i2) (by omega) (by omega) d hd j [(120, y)] hj
    generalize Go.Sort.scanDown (fun x => !lt x d[a]!) d i2 j = j2 at c2 b3 b4
    have w0 : j2 < i2 := by omega
    refine ⟨?_, by omega, hd⟩
    rw [Yj]
    unfold lp138_2
    (repeat (first | rw [ZB] | rw [Ze (by simp [ZN, ZE, ZG, ZH, Zy, Zj, Zw, Zm, Zo, Zb, Zc, Zn, Zz, ZA, ZI, ↓Zl, Zx, Zk, ZF, Zq, Zp, ZZ, ZD, Yk, put, lk, Od.v, Za, Zf, Zu, Yn, Yc, Yd, Ye, Yo, Yl, DV.isU, DV.cells, hget, ZO, Yb, ZP, Zv, splice, DV.one, ZQ, mat, Ya, Ym]; exact ⟨rfl, rfl⟩)] | rw [ZR (by simp [lk, Za, Od.v]; exact rfl)] | rw [Zq] | rw [Zp] | rw [ZJ] | rw [ZU] | rw [ZK] | rw [ZT] | rw [ZM] | rw [ZL] | rw [ZC] | rw [Zs] | rw [Zt] | rw [Zi (by decide)] | rw [Zr] | rw [Zg] | rw [Zh] | rw [Zd (by decide)] | rw [ZX] | rw [ZV (by simp [ZN, ZE, ZG, ZH, Zy, Zj, Zw, Zm, Zo, Zb, Zc, Zn, Zz, ZA, ZI, ↓Zl, Zx, Zk, ZF, Zq, Zp, ZZ, ZD, Yk, put, lk, Od.v, Za, Zf, Zu, Yn, Yc, Yd, Ye, Yo, Yl, DV.isU, DV.cells, hget, ZO, Yb, ZP, Zv, splice, DV.one, ZQ, mat, Ya, Ym]; exact ⟨rfl, rfl⟩)] | rw [ZW (by simp [lk, Za, Od.v]; exact rfl)] | rw [ZS]))
    rw [c1]
    (repeat (first | rw [ZB] | rw [Ze (by simp [ZN, ZE, ZG, ZH, Zy, Zj, Zw, Zm, Zo, Zb, Zc, Zn, Zz, ZA, ZI, ↓Zl, Zx, Zk, ZF, Zq, Zp, ZZ, ZD, Yk, put, lk, Od.v, Za, Zf, Zu, Yn, Yc, Yd, Ye, Yo, Yl, DV.isU, DV.cells, hget, ZO, Yb, ZP, Zv, splice, DV.one, ZQ, mat, Ya, Ym]; exact ⟨rfl, rfl⟩)] | rw [ZR (by simp [lk, Za, Od.v]; exact rfl)] | rw [Zq] | rw [Zp] | rw [ZJ] | rw [ZU] | rw [ZK] | rw [ZT] | rw [ZM] | rw [ZL] | rw [ZC] | rw [Zs] | rw [Zt] | rw [Zi (by decide)] | rw [Zr] | rw [Zg] | rw [Zh] | rw [Zd (by decide)] | rw [ZX] | rw [ZV (by simp [ZN, ZE, ZG, ZH, Zy, Zj, Zw, Zm, Zo, Zb, Zc, Zn, Zz, ZA, ZI, ↓Zl, Zx, Zk, ZF, Zq, Zp, ZZ, ZD, Yk, put, lk, Od.v, Za, Zf, Zu, Yn, Yc, Yd, Ye, Yo, Yl, DV.isU, DV.cells, hget, ZO, Yb, ZP, Zv, splice, DV.one, ZQ, mat, Ya, Ym]; exact ⟨rfl, rfl⟩)] | rw [ZW (by simp [lk, Za, Od.v]; exact rfl)] | rw [ZS]))
    (try simp only [Za, List.map_cons, List.map_nil, lk, reduceIte, Nat.reduceEqDiff, Nat.zero_ne_one, Nat.one_ne_zero])
    rw [c2]
    (repeat (first | rw [ZB] | rw [Ze (by simp [ZN, ZE, ZG, ZH, Zy, Zj, Zw, Zm, Zo, Zb, Zc, Zn, Zz, ZA, ZI, ↓Zl, Zx, Zk, ZF, Zq, Zp, ZZ, ZD, Yk, put, lk, Od.v, Za, Zf, Zu, Yn, Yc, Yd, Ye, Yo, Yl, DV.isU, DV.cells, hget, ZO, Yb, ZP, Zv, splice, DV.one, ZQ, mat, Ya, Ym, w0]; exact ⟨rfl, rfl⟩)] | rw [ZR (by simp [lk, Za, Od.v, w0]; exact rfl)] | rw [Zq] | rw [Zp] | rw [ZJ] | rw [ZU] | rw [ZK] | rw [ZT] | rw [ZM] | rw [ZL] | rw [ZC] | rw [Zs] | rw [Zt] | rw [Zi (by decide)] | rw [Zr] | rw [Zg] | rw [Zh] | rw [Zd (by decide)] | rw [ZX] | rw [ZV (by simp [ZN, ZE, ZG, ZH, Zy, Zj, Zw, Zm, Zo, Zb, Zc, Zn, Zz, ZA, ZI, ↓Zl, Zx, Zk, ZF, Zq, Zp, ZZ, ZD, Yk, put, lk, Od.v, Za, Zf, Zu, Yn, Yc, Yd, Ye, Yo, Yl, DV.isU, DV.cells, hget, ZO, Yb, ZP, Zv, splice, DV.one, ZQ, mat, Ya, Ym, w0]; exact ⟨rfl, rfl⟩)] | rw [ZW (by simp [lk, Za, Od.v, w0]; exact rfl)] | rw [ZS]))
    rw [Yr]
    exact ⟨_, rfl, by simp [Za, lk], by simp [Za, lk], by simp [Za, lk]⟩
  | succ k ih =>
    intro i j d hk h1 hi hj hd
    obtain ⟨⟨y, c1⟩, b1, b2⟩ := up50b (H := H) (r := r) (g := g) (n := n) (a := a) hr hn ha d hd n i j (by omega) hj hi
    have hdef : Go.Sort.partLoop lt a i j d = if Go.Sort.scanUp (fun x => lt x d[a]!) d j i > Go.Sort.scanDown (fun x => !lt x d[a]!) d (Go.Sort.scanUp (fun x => lt x d[a]!) d j i) j then (Go.Sort.scanDown (fun x => !lt x d[a]!) d (Go.Sort.scanUp (fun x => lt x d[a]!) d j i) j, d) else Go.Sort.partLoop lt a (Go.Sort.scanUp (fun x => lt x d[a]!) d j i + 1) (Go.Sort.scanDown (fun x => !lt x d[a]!) d (Go.Sort.scanUp (fun x => lt x d[a]!) d j i) j - 1) (Go.Sort.swp d (Go.Sort.scanUp (fun x => lt x d[a]!) d j i) (Go.Sort.scanDown (fun x => !lt x d[a]!) d (Go.Sort.scanUp (fun x => lt x d[a]!) d j i) j)) := by
      rw [Go.Sort.partLoop]
      have h2 := (down50b (H := H) (r := r) (g := g) (n := n) (a := a) hr hn ha (i := Go.Sort.scanUp (fun x => lt x d[a]!) d j i) (by omega) (by omega) d hd j [] hj).2
      try simp only
      split
      · rfl
      · rw [dif_pos (by omega)]
    rw [hdef]
    generalize Go.Sort.scanUp (fun x => lt x d[a]!) d j i = i2 at c1 b1 b2 ⊢
    obtain ⟨⟨y2, c2⟩, b3, b4⟩ := down50b (H := H) (r := r) (g := g) (n := n) (a := a) hr hn ha (i := i2) (by omega) (by omega) d hd j [(120, y)] hj
    generalize Go.Sort.scanDown (fun x => !lt x d[a]!) d i2 j = j2 at c2 b3 b4 ⊢
    by_cases w0 : j2 < i2
    · rw [if_pos w0]
      refine ⟨?_, by show j2 < n; omega, hd⟩
      rw [Yj]
      unfold lp138_2
      (repeat (first | rw [ZB] | rw [Ze (by simp [ZN, ZE, ZG, ZH, Zy, Zj, Zw, Zm, Zo, Zb, Zc, Zn, Zz, ZA, ZI, ↓Zl, Zx, Zk, ZF, Zq, Zp, ZZ, ZD, Yk, put, lk, Od.v, Za, Zf, Zu, Yn, Yc, Yd, Ye, Yo, Yl, DV.isU, DV.cells, hget, ZO, Yb, ZP, Zv, splice, DV.one, ZQ, mat, Ya, Ym]; exact ⟨rfl, rfl⟩)] | rw [ZR (by simp [lk, Za, Od.v]; exact rfl)] | rw [Zq] | rw [Zp] | rw [ZJ] | rw [ZU] | rw [ZK] | rw [ZT] | rw [ZM] | rw [ZL] | rw [ZC] | rw [Zs] | rw [Zt] | rw [Zi (by decide)] | rw [Zr] | rw [Zg] | rw [Zh] | rw [Zd (by decide)] | rw [ZX] | rw [ZV (by simp [ZN, ZE, ZG, ZH, Zy, Zj, Zw, Zm, Zo, Zb, Zc, Zn, Zz, ZA, ZI, ↓Zl, Zx, Zk, ZF, Zq, Zp, ZZ, ZD, Yk, put, lk, Od.v, Za, Zf, Zu, Yn, Yc, Yd, Ye, Yo, Yl, DV.isU, DV.cells, hget, ZO, Yb, ZP, Zv, splice, DV.one, ZQ, mat, Ya, Ym]; exact ⟨rfl, rfl⟩)] | rw [ZW (by simp [lk, Za, Od.v]; exact rfl)] | rw [ZS]))
      rw [c1]
      (repeat (first | rw [ZB] | rw [Ze (by simp [ZN, ZE, ZG, ZH, Zy, Zj, Zw, Zm, Zo, Zb, Zc, Zn, Zz, ZA, ZI, ↓Zl, Zx, Zk, ZF, Zq, Zp, ZZ, ZD, Yk, put, lk, Od.v, Za, Zf, Zu, Yn, Yc, Yd, Ye, Yo, Yl, DV.isU, DV.cells, hget, ZO, Yb, ZP, Zv, splice, DV.one, ZQ, mat, Ya, Ym]; exact ⟨rfl, rfl⟩)] | rw [ZR (by simp [lk, Za, Od.v]; exact rfl)] | rw [Zq] | rw [Zp] | rw [ZJ] | rw [ZU] | rw [ZK] | rw [ZT] | rw [ZM] | rw [ZL] | rw [ZC] | rw [Zs] | rw [Zt] | rw [Zi (by decide)] | rw [Zr] | rw [Zg] | rw [Zh] | rw [Zd (by decide)] | rw [ZX] | rw [ZV (by simp [ZN, ZE, ZG, ZH, Zy, Zj, Zw, Zm, Zo, Zb, Zc, Zn, Zz, ZA, ZI, ↓Zl, Zx, Zk, ZF, Zq, Zp, ZZ, ZD, Yk, put, lk, Od.v, Za, Zf, Zu, Yn, Yc, Yd, Ye, Yo, Yl, DV.isU, DV.cells, hget, ZO, Yb, ZP, Zv, splice, DV.one, ZQ, mat, Ya, Ym]; exact ⟨rfl, rfl⟩)] | rw [ZW (by simp [lk, Za, Od.v]; exact rfl)] | rw [ZS]))
      (try simp only [Za, List.map_cons, List.map_nil, lk, reduceIte, Nat.reduceEqDiff, Nat.zero_ne_one, Nat.one_ne_zero])
      rw [c2]
      (repeat (first | rw [ZB] | rw [Ze (by simp [ZN, ZE, ZG, ZH, Zy, Zj, Zw, Zm, Zo, Zb, Zc, Zn, Zz, ZA, ZI, ↓Zl, Zx, Zk, ZF, Zq, Zp, ZZ, ZD, Yk, put, lk, Od.v, Za, Zf, Zu, Yn, Yc, Yd, Ye, Yo, Yl, DV.isU, DV.cells, hget, ZO, Yb, ZP, Zv, splice, DV.one, ZQ, mat, Ya, Ym, w0]; exact ⟨rfl, rfl⟩)] | rw [ZR (by simp [lk, Za, Od.v, w0]; exact rfl)] | rw [Zq] | rw [Zp] | rw [ZJ] | rw [ZU] | rw [ZK] | rw [ZT] | rw [ZM] | rw [ZL] | rw [ZC] | rw [Zs] | rw [Zt] | rw [Zi (by decide)] | rw [Zr] | rw [Zg] | rw [Zh] | rw [Zd (by decide)] | rw [ZX] | rw [ZV (by simp [ZN, ZE, ZG, ZH, Zy, Zj, Zw, Zm, Zo, Zb, Zc, Zn, Zz, ZA, ZI, ↓Zl, Zx, Zk, ZF, Zq, Zp, ZZ, ZD, Yk, put, lk, Od.v, Za, Zf, Zu, Yn, Yc, Yd, Ye, Yo, Yl, DV.isU, DV.cells, hget, ZO, Yb, ZP, Zv, splice, DV.one, ZQ, mat, Ya, Ym, w0]; exact ⟨rfl, rfl⟩)] | rw [ZW (by simp [lk, Za, Od.v, w0]; exact rfl)] | rw [ZS]))
      rw [Yr]
      exact ⟨_, rfl, by simp [Za, lk], by simp [Za, lk], by simp [Za, lk]⟩
    · rw [if_neg w0]
      obtain ⟨I, hI⟩ : ∃ I, I = i2 + 1 := ⟨_, rfl⟩
      obtain ⟨J, hJ⟩ : ∃ J, J = j2 - 1 := ⟨_, rfl⟩
      have w1 : IntKind.i64.wrap ((i2 : Int) + 1) = (I : Int) := (by rw [wrap64 _ (by omega) (by omega)]; omega)
      have w2 : IntKind.i64.wrap ((j2 : Int) - 1) = (J : Int) := (by rw [wrap64 _ (by omega) (by omega)]; omega)
      have u1 : i2 < n := by omega
      have u2 : j2 < n := by omega
      have hs : C X lp138_2 [(0, rw_ r g n), (1, .int .i64 a), (4, .func 98 [] []), (12, .int .i64 i), (13, .int .i64 j)] (hp H r g d) = some (.norm, [(0, rw_ r g n), (1, .int .i64 a), (4, .func 98 [] []), (12, .int .i64 I), (13, .int .i64 J)], hp H r g (Go.Sort.swp d i2 j2)) := by
        unfold lp138_2
        rw [swp_upd]
        (repeat (first | rw [ZB] | rw [Ze (by simp [ZN, ZE, ZG, ZH, Zy, Zj, Zw, Zm, Zo, Zb, Zc, Zn, Zz, ZA, ZI, ↓Zl, Zx, Zk, ZF, Zq, Zp, ZZ, ZD, Yk, put, lk, Od.v, Za, Zf, Zu, Yn, Yc, Yd, Ye, Yo, Yl, DV.isU, DV.cells, hget, ZO, Yb, ZP, Zv, splice, DV.one, ZQ, mat, Ya, Ym]; exact ⟨rfl, rfl⟩)] | rw [ZR (by simp [lk, Za, Od.v]; exact rfl)] | rw [Zq] | rw [Zp] | rw [ZJ] | rw [ZU] | rw [ZK] | rw [ZT] | rw [ZM] | rw [ZL] | rw [ZC] | rw [Zs] | rw [Zt] | rw [Zi (by decide)] | rw [Zr] | rw [Zg] | rw [Zh] | rw [Zd (by decide)] | rw [ZX] | rw [ZV (by simp [ZN, ZE, ZG, ZH, Zy, Zj, Zw, Zm, Zo, Zb, Zc, Zn, Zz, ZA, ZI, ↓Zl, Zx, Zk, ZF, Zq, Zp, ZZ, ZD, Yk, put, lk, Od.v, Za, Zf, Zu, Yn, Yc, Yd, Ye, Yo, Yl, DV.isU, DV.cells, hget, ZO, Yb, ZP, Zv, splice, DV.one, ZQ, mat, Ya, Ym]; exact ⟨rfl, rfl⟩)] | rw [ZW (by simp [lk, Za, Od.v]; exact rfl)] | rw [ZS]))
        rw [c1]
        (repeat (first | rw [ZB] | rw [Ze (by simp [ZN, ZE, ZG, ZH, Zy, Zj, Zw, Zm, Zo, Zb, Zc, Zn, Zz, ZA, ZI, ↓Zl, Zx, Zk, ZF, Zq, Zp, ZZ, ZD, Yk, put, lk, Od.v, Za, Zf, Zu, Yn, Yc, Yd, Ye, Yo, Yl, DV.isU, DV.cells, hget, ZO, Yb, ZP, Zv, splice, DV.one, ZQ, mat, Ya, Ym]; exact ⟨rfl, rfl⟩)] | rw [ZR (by simp [lk, Za, Od.v]; exact rfl)] | rw [Zq] | rw [Zp] | rw [ZJ] | rw [ZU] | rw [ZK] | rw [ZT] | rw [ZM] | rw [ZL] | rw [ZC] | rw [Zs] | rw [Zt] | rw [Zi (by decide)] | rw [Zr] | rw [Zg] | rw [Zh] | rw [Zd (by decide)] | rw [ZX] | rw [ZV (by simp [ZN, ZE, ZG, ZH, Zy, Zj, Zw, Zm, Zo, Zb, Zc, Zn, Zz, ZA, ZI, ↓Zl, Zx, Zk, ZF, Zq, Zp, ZZ, ZD, Yk, put, lk, Od.v, Za, Zf, Zu, Yn, Yc, Yd, Ye, Yo, Yl, DV.isU, DV.cells, hget, ZO, Yb, ZP, Zv, splice, DV.one, ZQ, mat, Ya, Ym]; exact ⟨rfl, rfl⟩)] | rw [ZW (by simp [lk, Za, Od.v]; exact rfl)] | rw [ZS]))
        (try simp only [Za, List.map_cons, List.map_nil, lk, reduceIte, Nat.reduceEqDiff, Nat.zero_ne_one, Nat.one_ne_zero])
        rw [c2]
        (repeat (first | rw [ZB] | rw [Ze (by simp [ZN, ZE, ZG, ZH, Zy, Zj, Zw, Zm, Zo, Zb, Zc, Zn, Zz, ZA, ZI, ↓Zl, Zx, Zk, ZF, Zq, Zp, ZZ, ZD, Yk, put, lk, Od.v, Za, Zf, Zu, Yn, Yc, Yd, Ye, Yo, Yl, DV.isU, DV.cells, hget, ZO, Yb, ZP, Zv, splice, DV.one, ZQ, mat, Ya, Ym, w0, w1, w2, u1, u2, hr, hd, Yy, rdS, wrS, Yh]; exact ⟨rfl, rfl⟩)] | rw [ZR (by simp [lk, Za, Od.v, w0, w1, w2, u1, u2, hr, hd, Yy, rdS, wrS, Yh]; exact rfl)] | rw [Zq] | rw [Zp] | rw [ZJ] | rw [ZU] | rw [ZK] | rw [ZT] | rw [ZM] | rw [ZL] | rw [ZC] | rw [Zs] | rw [Zt] | rw [Zi (by decide)] | rw [Zr] | rw [Zg] | rw [Zh] | rw [Zd (by decide)] | rw [ZX] | rw [ZV (by simp [ZN, ZE, ZG, ZH, Zy, Zj, Zw, Zm, Zo, Zb, Zc, Zn, Zz, ZA, ZI, ↓Zl, Zx, Zk, ZF, Zq, Zp, ZZ, ZD, Yk, put, lk, Od.v, Za, Zf, Zu, Yn, Yc, Yd, Ye, Yo, Yl, DV.isU, DV.cells, hget, ZO, Yb, ZP, Zv, splice, DV.one, ZQ, mat, Ya, Ym, w0, w1, w2, u1, u2, hr, hd, Yy, rdS, wrS, Yh]; exact ⟨rfl, rfl⟩)] | rw [ZW (by simp [lk, Za, Od.v, w0, w1, w2, u1, u2, hr, hd, Yy, rdS, wrS, Yh]; exact rfl)] | rw [ZS]))
        simp [Za, lk]
      rw [Yj, hs, Yu, ← hI, ← hJ]
      exact ih I J _ (by omega) (by omega) (by omega) (by omega) (by rw [swp_size, hd])
theorem run138 {H : ZY} {r g n a b p : Nat} (hr : r < H.length) (hn : n ≤ 1000000) (hab : a < b) (hb : b ≤ n) (hp' : p < n) (d : Array V) (hd : d.size = n) :
    E X 138 [rw_ r g n, .int .i64 a, .int .i64 b, .int .i64 p, .func 98 [] []] (hp H r g d) = some (.tup [.int .i64 (Go.Sort.partition lt d a b p).1, .bool (Go.Sort.partition lt d a b p).2.1], hp H r g (Go.Sort.partition lt d a b p).2.2) := by
  obtain ⟨i0, hi⟩ : ∃ i, i = a + 1 := ⟨_, rfl⟩
  obtain ⟨j0, hj⟩ : ∃ j, j = b - 1 := ⟨_, rfl⟩
  have w1 : IntKind.i64.wrap ((a : Int) + 1) = (i0 : Int) := (by rw [wrap64 _ (by omega) (by omega)]; omega)
  have w2 : IntKind.i64.wrap ((b : Int) - 1) = (j0 : Int) := (by rw [wrap64 _ (by omega) (by omega)]; omega)
  have u1 : a < n := by omega
  obtain ⟨d1, hd1⟩ : ∃ d1, d1 = Go.Sort.swp d a p := ⟨_, rfl⟩
  have hs1 : d1.size = n := by rw [hd1, swp_size, hd]
  obtain ⟨⟨y, c1⟩, b1, b2⟩ := up50a (H := H) (r := r) (g := g) (n := n) (a := a) hr hn u1 d1 hs1 n i0 j0 (by omega) (by omega) (by omega)
  have hdef : Go.Sort.partition lt d a b p = if Go.Sort.scanUp (fun x => lt x d1[a]!) d1 j0 i0 > Go.Sort.scanDown (fun x => !lt x d1[a]!) d1 (Go.Sort.scanUp (fun x => lt x d1[a]!) d1 j0 i0) j0 then (Go.Sort.scanDown (fun x => !lt x d1[a]!) d1 (Go.Sort.scanUp (fun x => lt x d1[a]!) d1 j0 i0) j0, true, Go.Sort.swp d1 (Go.Sort.scanDown (fun x => !lt x d1[a]!) d1 (Go.Sort.scanUp (fun x => lt x d1[a]!) d1 j0 i0) j0) a) else
      ((Go.Sort.partLoop lt a (Go.Sort.scanUp (fun x => lt x d1[a]!) d1 j0 i0 + 1) (Go.Sort.scanDown (fun x => !lt x d1[a]!) d1 (Go.Sort.scanUp (fun x => lt x d1[a]!) d1 j0 i0) j0 - 1) (Go.Sort.swp d1 (Go.Sort.scanUp (fun x => lt x d1[a]!) d1 j0 i0) (Go.Sort.scanDown (fun x => !lt x d1[a]!) d1 (Go.Sort.scanUp (fun x => lt x d1[a]!) d1 j0 i0) j0))).1, false, Go.Sort.swp (Go.Sort.partLoop lt a (Go.Sort.scanUp (fun x => lt x d1[a]!) d1 j0 i0 + 1) (Go.Sort.scanDown (fun x => !lt x d1[a]!) d1 (Go.Sort.scanUp (fun x => lt x d1[a]!) d1 j0 i0) j0 - 1) (Go.Sort.swp d1 (Go.Sort.scanUp (fun x => lt x d1[a]!) d1 j0 i0) (Go.Sort.scanDown (fun x => !lt x d1[a]!) d1 (Go.Sort.scanUp (fun x => lt x d1[a]!) d1 j0 i0) j0))).2 (Go.Sort.partLoop lt a (Go.Sort.scanUp (fun x => lt x d1[a]!) d1 j0 i0 + 1) (Go.Sort.scanDown (fun x => !lt x d1[a]!) d1 (Go.Sort.scanUp (fun x => lt x d1[a]!) d1 j0 i0) j0 - 1) (Go.Sort.swp d1 (Go.Sort.scanUp (fun x => lt x d1[a]!) d1 j0 i0) (Go.Sort.scanDown (fun x => !lt x d1[a]!) d1 (Go.Sort.scanUp (fun x => lt x d1[a]!) d1 j0 i0) j0))).1 a) := by
    rw [hd1, hi, hj]; rfl
  rw [hdef]
  generalize Go.Sort.scanUp (fun x => lt x d1[a]!) d1 j0 i0 = i at c1 b1 b2 ⊢
  obtain ⟨⟨y2, c2⟩, b3, b4⟩ := down50a (H := H) (r := r) (g := g) (n := n) (a := a) hr hn u1 (i := i) (by omega) (by omega) d1 hs1 j0 [(47, y)] (by omega)
  generalize Go.Sort.scanDown (fun x => !lt x d1[a]!) d1 i j0 = j at c2 b3 b4 ⊢
  have u3 : j < n := by omega
  have hd1' : hp H r g (upA (upA d a (el d p)) p (el d a)) = hp H r g d1 := by rw [hd1, swp_upd]
  by_cases w0 : j < i
  · rw [if_pos w0, Yt (X := X) _ b138 _ rfl rfl]; unfold b138
    (repeat (first | rw [ZB] | rw [Ze (by simp [ZN, ZE, ZG, ZH, Zy, Zj, Zw, Zm, Zo, Zb, Zc, Zn, Zz, ZA, ZI, ↓Zl, Zx, Zk, ZF, Zq, Zp, ZZ, ZD, Yk, put, lk, Od.v, Za, Zf, Zu, Yn, Yc, Yd, Ye, Yo, Yl, DV.isU, DV.cells, hget, ZO, Yb, ZP, Zv, splice, DV.one, ZQ, mat, Ya, Ym, w1, w2, u1, hp', hr, hd, Yy, rdS, wrS, Yh, hd1']; exact ⟨rfl, rfl⟩)] | rw [ZR (by simp [lk, Za, Od.v, w1, w2, u1, hp', hr, hd, Yy, rdS, wrS, Yh, hd1']; exact rfl)] | rw [Zq] | rw [Zp] | rw [ZJ] | rw [ZU] | rw [ZK] | rw [ZT] | rw [ZM] | rw [ZL] | rw [ZC] | rw [Zs] | rw [Zt] | rw [Zi (by decide)] | rw [Zr] | rw [Zg] | rw [Zh] | rw [Zd (by decide)] | rw [ZX] | rw [ZV (by simp [ZN, ZE, ZG, ZH, Zy, Zj, Zw, Zm, Zo, Zb, Zc, Zn, Zz, ZA, ZI, ↓Zl, Zx, Zk, ZF, Zq, Zp, ZZ, ZD, Yk, put, lk, Od.v, Za, Zf, Zu, Yn, Yc, Yd, Ye, Yo, Yl, DV.isU, DV.cells, hget, ZO, Yb, ZP, Zv, splice, DV.one, ZQ, mat, Ya, Ym, w1, w2, u1, hp', hr, hd, Yy, rdS, wrS, Yh, hd1']; exact ⟨rfl, rfl⟩)] | rw [ZW (by simp [lk, Za, Od.v, w1, w2, u1, hp', hr, hd, Yy, rdS, wrS, Yh, hd1']; exact rfl)] | rw [ZS]))
    (try simp only [Za, List.map_cons, List.map_nil, lk, reduceIte, Nat.reduceEqDiff, Nat.zero_ne_one, Nat.one_ne_zero])
    rw [c1]
    (repeat (first | rw [ZB] | rw [Ze (by simp [ZN, ZE, ZG, ZH, Zy, Zj, Zw, Zm, Zo, Zb, Zc, Zn, Zz, ZA, ZI, ↓Zl, Zx, Zk, ZF, Zq, Zp, ZZ, ZD, Yk, put, lk, Od.v, Za, Zf, Zu, Yn, Yc, Yd, Ye, Yo, Yl, DV.isU, DV.cells, hget, ZO, Yb, ZP, Zv, splice, DV.one, ZQ, mat, Ya, Ym]; exact ⟨rfl, rfl⟩)] | rw [ZR (by simp [lk, Za, Od.v]; exact rfl)] | rw [Zq] | rw [Zp] | rw [ZJ] | rw [ZU] | rw [ZK] | rw [ZT] | rw [ZM] | rw [ZL] | rw [ZC] | rw [Zs] | rw [Zt] | rw [Zi (by decide)] | rw [Zr] | rw [Zg] | rw [Zh] | rw [Zd (by decide)] | rw [ZX] | rw [ZV (by simp [ZN, ZE, ZG, ZH, Zy, Zj, Zw, Zm, Zo, Zb, Zc, Zn, Zz, ZA, ZI, ↓Zl, Zx, Zk, ZF, Zq, Zp, ZZ, ZD, Yk, put, lk, Od.v, Za, Zf, Zu, Yn, Yc, Yd, Ye, Yo, Yl, DV.isU, DV.cells, hget, ZO, Yb, ZP, Zv, splice, DV.one, ZQ, mat, Ya, Ym]; exact ⟨rfl, rfl⟩)] | rw [ZW (by simp [lk, Za, Od.v]; exact rfl)] | rw [ZS]))
    (try simp only [Za, List.map_cons, List.map_nil, lk, reduceIte, Nat.reduceEqDiff, Nat.zero_ne_one, Nat.one_ne_zero])
    rw [c2]
    (repeat (first | rw [ZB] | rw [Ze (by simp [ZN, ZE, ZG, ZH, Zy, Zj, Zw, Zm, Zo, Zb, Zc, Zn, Zz, ZA, ZI, ↓Zl, Zx, Zk, ZF, Zq, Zp, ZZ, ZD, Yk, put, lk, Od.v, Za, Zf, Zu, Yn, Yc, Yd, Ye, Yo, Yl, DV.isU, DV.cells, hget, ZO, Yb, ZP, Zv, splice, DV.one, ZQ, mat, Ya, Ym, w0, u1, u3, hr, hs1, Yy, rdS, wrS, Yh]; exact ⟨rfl, rfl⟩)] | rw [ZR (by simp [lk, Za, Od.v, w0, u1, u3, hr, hs1, Yy, rdS, wrS, Yh]; exact rfl)] | rw [Zq] | rw [Zp] | rw [ZJ] | rw [ZU] | rw [ZK] | rw [ZT] | rw [ZM] | rw [ZL] | rw [ZC] | rw [Zs] | rw [Zt] | rw [Zi (by decide)] | rw [Zr] | rw [Zg] | rw [Zh] | rw [Zd (by decide)] | rw [ZX] | rw [ZV (by simp [ZN, ZE, ZG, ZH, Zy, Zj, Zw, Zm, Zo, Zb, Zc, Zn, Zz, ZA, ZI, ↓Zl, Zx, Zk, ZF, Zq, Zp, ZZ, ZD, Yk, put, lk, Od.v, Za, Zf, Zu, Yn, Yc, Yd, Ye, Yo, Yl, DV.isU, DV.cells, hget, ZO, Yb, ZP, Zv, splice, DV.one, ZQ, mat, Ya, Ym, w0, u1, u3, hr, hs1, Yy, rdS, wrS, Yh]; exact ⟨rfl, rfl⟩)] | rw [ZW (by simp [lk, Za, Od.v, w0, u1, u3, hr, hs1, Yy, rdS, wrS, Yh]; exact rfl)] | rw [ZS]))
    simp only [Yf, Yq, Za, List.map_cons, List.map_nil, lk, reduceIte, Nat.reduceEqDiff, Option.map_some]
    rw [fin_len2 (by rw [hp_len, hp_len]) rfl rfl]
    rfl
  · rw [if_neg w0]
    have u2 : i < n := by omega
    obtain ⟨I, hI⟩ : ∃ I, I = i + 1 := ⟨_, rfl⟩
    obtain ⟨J, hJ⟩ : ∃ J, J = j - 1 := ⟨_, rfl⟩
    have w3 : IntKind.i64.wrap ((i : Int) + 1) = (I : Int) := (by rw [wrap64 _ (by omega) (by omega)]; omega)
    have w4 : IntKind.i64.wrap ((j : Int) - 1) = (J : Int) := (by rw [wrap64 _ (by omega) (by omega)]; omega)
    rw [← hI, ← hJ]
    obtain ⟨⟨e', c3, c4, c5, c6⟩, b5, b6⟩ := loop138 (H := H) (r := r) (g := g) (n := n) (a := a) hr hn u1 n I J (Go.Sort.swp d1 i j) (by omega) (by omega) (by omega) (by omega) (by rw [swp_size, hs1])
    have hd2' : hp H r g (upA (upA d1 i (el d1 j)) j (el d1 i)) = hp H r g (Go.Sort.swp d1 i j) := by rw [swp_upd]
    generalize Go.Sort.swp d1 i j = d2 at c3 c6 b5 b6 hd2' ⊢
    generalize Go.Sort.partLoop lt a I J d2 = o at c3 c6 b5 b6 ⊢
    obtain ⟨q, d3⟩ := o
    simp only at c3 c6 b5 b6 ⊢
    rw [Yt (X := X) _ b138 _ rfl rfl]; unfold b138
    (repeat (first | rw [ZB] | rw [Ze (by simp [ZN, ZE, ZG, ZH, Zy, Zj, Zw, Zm, Zo, Zb, Zc, Zn, Zz, ZA, ZI, ↓Zl, Zx, Zk, ZF, Zq, Zp, ZZ, ZD, Yk, put, lk, Od.v, Za, Zf, Zu, Yn, Yc, Yd, Ye, Yo, Yl, DV.isU, DV.cells, hget, ZO, Yb, ZP, Zv, splice, DV.one, ZQ, mat, Ya, Ym, w1, w2, u1, hp', hr, hd, Yy, rdS, wrS, Yh, hd1']; exact ⟨rfl, rfl⟩)] | rw [ZR (by simp [lk, Za, Od.v, w1, w2, u1, hp', hr, hd, Yy, rdS, wrS, Yh, hd1']; exact rfl)] | rw [Zq] | rw [Zp] | rw [ZJ] | rw [ZU] | rw [ZK] | rw [ZT] | rw [ZM] | rw [ZL] | rw [ZC] | rw [Zs] | rw [Zt] | rw [Zi (by decide)] | rw [Zr] | rw [Zg] | rw [Zh] | rw [Zd (by decide)] | rw [ZX] | rw [ZV (by simp [ZN, ZE, ZG, ZH, Zy, Zj, Zw, Zm, Zo, Zb, Zc, Zn, Zz, ZA, ZI, ↓Zl, Zx, Zk, ZF, Zq, Zp, ZZ, ZD, Yk, put, lk, Od.v, Za, Zf, Zu, Yn, Yc, Yd, Ye, Yo, Yl, DV.isU, DV.cells, hget, ZO, Yb, ZP, Zv, splice, DV.one, ZQ, mat, Ya, Ym, w1, w2, u1, hp', hr, hd, Yy, rdS, wrS, Yh, hd1']; exact ⟨rfl, rfl⟩)] | rw [ZW (by simp [lk, Za, Od.v, w1, w2, u1, hp', hr, hd, Yy, rdS, wrS, Yh, hd1']; exact rfl)] | rw [ZS]))
    (try simp only [Za, List.map_cons, List.map_nil, lk, reduceIte, Nat.reduceEqDiff, Nat.zero_ne_one, Nat.one_ne_zero])
    rw [c1]
    (repeat (first | rw [ZB] | rw [Ze (by simp [ZN, ZE, ZG, ZH, Zy, Zj, Zw, Zm, Zo, Zb, Zc, Zn, Zz, ZA, ZI, ↓Zl, Zx, Zk, ZF, Zq, Zp, ZZ, ZD, Yk, put, lk, Od.v, Za, Zf, Zu, Yn, Yc, Yd, Ye, Yo, Yl, DV.isU, DV.cells, hget, ZO, Yb, ZP, Zv, splice, DV.one, ZQ, mat, Ya, Ym]; exact ⟨rfl, rfl⟩)] | rw [ZR (by simp [lk, Za, Od.v]; exact rfl)] | rw [Zq] | rw [Zp] | rw [ZJ] | rw [ZU] | rw [ZK] | rw [ZT] | rw [ZM] | rw [ZL] | rw [ZC] | rw [Zs] | rw [Zt] | rw [Zi (by decide)] | rw [Zr] | rw [Zg] | rw [Zh] | rw [Zd (by decide)] | rw [ZX] | rw [ZV (by simp [ZN, ZE, ZG, ZH, Zy, Zj, Zw, Zm, Zo, Zb, Zc, Zn, Zz, ZA, ZI, ↓Zl, Zx, Zk, ZF, Zq, Zp, ZZ, ZD, Yk, put, lk, Od.v, Za, Zf, Zu, Yn, Yc, Yd, Ye, Yo, Yl, DV.isU, DV.cells, hget, ZO, Yb, ZP, Zv, splice, DV.one, ZQ, mat, Ya, Ym]; exact ⟨rfl, rfl⟩)] | rw [ZW (by simp [lk, Za, Od.v]; exact rfl)] | rw [ZS]))
    (try simp only [Za, List.map_cons, List.map_nil, lk, reduceIte, Nat.reduceEqDiff, Nat.zero_ne_one, Nat.one_ne_zero])
    rw [c2]
    (repeat (first | rw [ZB] | rw [Ze (by simp [ZN, ZE, ZG, ZH, Zy, Zj, Zw, Zm, Zo, Zb, Zc, Zn, Zz, ZA, ZI, ↓Zl, Zx, Zk, ZF, Zq, Zp, ZZ, ZD, Yk, put, lk, Od.v, Za, Zf, Zu, Yn, Yc, Yd, Ye, Yo, Yl, DV.isU, DV.cells, hget, ZO, Yb, ZP, Zv, splice, DV.one, ZQ, mat, Ya, Ym, w0, w3, w4, u1, u2, u3, hr, hs1, Yy, rdS, wrS, Yh, hd2']; exact ⟨rfl, rfl⟩)] | rw [ZR (by simp [lk, Za, Od.v, w0, w3, w4, u1, u2, u3, hr, hs1, Yy, rdS, wrS, Yh, hd2']; exact rfl)] | rw [Zq] | rw [Zp] | rw [ZJ] | rw [ZU] | rw [ZK] | rw [ZT] | rw [ZM] | rw [ZL] | rw [ZC] | rw [Zs] | rw [Zt] | rw [Zi (by decide)] | rw [Zr] | rw [Zg] | rw [Zh] | rw [Zd (by decide)] | rw [ZX] | rw [ZV (by simp [ZN, ZE, ZG, ZH, Zy, Zj, Zw, Zm, Zo, Zb, Zc, Zn, Zz, ZA, ZI, ↓Zl, Zx, Zk, ZF, Zq, Zp, ZZ, ZD, Yk, put, lk, Od.v, Za, Zf, Zu, Yn, Yc, Yd, Ye, Yo, Yl, DV.isU, DV.cells, hget, ZO, Yb, ZP, Zv, splice, DV.one, ZQ, mat, Ya, Ym, w0, w3, w4, u1, u2, u3, hr, hs1, Yy, rdS, wrS, Yh, hd2']; exact ⟨rfl, rfl⟩)] | rw [ZW (by simp [lk, Za, Od.v, w0, w3, w4, u1, u2, u3, hr, hs1, Yy, rdS, wrS, Yh, hd2']; exact rfl)] | rw [ZS]))
    (try simp only [Za, List.map_cons, List.map_nil, lk, reduceIte, Nat.reduceEqDiff, Nat.zero_ne_one, Nat.one_ne_zero])
    rw [c3]
    (repeat (first | rw [ZB] | rw [Ze (by simp [ZN, ZE, ZG, ZH, Zy, Zj, Zw, Zm, Zo, Zb, Zc, Zn, Zz, ZA, ZI, ↓Zl, Zx, Zk, ZF, Zq, Zp, ZZ, ZD, Yk, put, lk, Od.v, Za, Zf, Zu, Yn, Yc, Yd, Ye, Yo, Yl, DV.isU, DV.cells, hget, ZO, Yb, ZP, Zv, splice, DV.one, ZQ, mat, Ya, Ym, c4, c5, c6, u1, b5, hr, b6, Yy, rdS, wrS, Yh]; exact ⟨rfl, rfl⟩)] | rw [ZR (by simp [lk, Za, Od.v, c4, c5, c6, u1, b5, hr, b6, Yy, rdS, wrS, Yh]; exact rfl)] | rw [Zq] | rw [Zp] | rw [ZJ] | rw [ZU] | rw [ZK] | rw [ZT] | rw [ZM] | rw [ZL] | rw [ZC] | rw [Zs] | rw [Zt] | rw [Zi (by decide)] | rw [Zr] | rw [Zg] | rw [Zh] | rw [Zd (by decide)] | rw [ZX] | rw [ZV (by simp [ZN, ZE, ZG, ZH, Zy, Zj, Zw, Zm, Zo, Zb, Zc, Zn, Zz, ZA, ZI, ↓Zl, Zx, Zk, ZF, Zq, Zp, ZZ, ZD, Yk, put, lk, Od.v, Za, Zf, Zu, Yn, Yc, Yd, Ye, Yo, Yl, DV.isU, DV.cells, hget, ZO, Yb, ZP, Zv, splice, DV.one, ZQ, mat, Ya, Ym, c4, c5, c6, u1, b5, hr, b6, Yy, rdS, wrS, Yh]; exact ⟨rfl, rfl⟩)] | rw [ZW (by simp [lk, Za, Od.v, c4, c5, c6, u1, b5, hr, b6, Yy, rdS, wrS, Yh]; exact rfl)] | rw [ZS]))
    simp only [Yf, Yq, Za, List.map_cons, List.map_nil, lk, reduceIte, Nat.reduceEqDiff, Option.map_some]
    rw [fin_len2 (by rw [hp_len, hp_len]) rfl rfl]
    rfl
theorem scan48 {H : ZY} {r g n a b : Nat} {s : Int} (hr : r < H.length) (hn : n ≤ 1000000) (hb : b ≤ n) (d : Array V) (hd : d.size = n) : ∀ (k i : Nat) (ex : Env), b - i ≤ k → 1 ≤ i → i ≤ b →
    (∃ y, C X (.loop lp136_1) ((0, rw_ r g n) :: (1, .int .i64 a) :: (2, .int .i64 b) :: (3, .func 98 [] []) :: (9, .int .i64 i) :: (10, .int .i64 s) :: ex) (hp H r g d) =
      some (.exit 2, [(0, rw_ r g n), (1, .int .i64 a), (2, .int .i64 b), (3, .func 98 [] []), (9, .int .i64 (Go.Sort.scanSorted lt d b i : Nat)), (10, .int .i64 s), (36, y)], hp H r g d)) ∧ i ≤ Go.Sort.scanSorted lt d b i ∧ Go.Sort.scanSorted lt d b i ≤ b := by
  intro k
  induction k with
  | zero =>
    intro i ex hk h1 hi
    have w0 : ¬ i < b := by omega
    rw [Go.Sort.scanSorted, if_neg (by simp [w0])]
    refine ⟨?_, Nat.le_refl _, hi⟩
    rw [Yj]
    unfold lp136_1
    (repeat (first | rw [ZB] | rw [Ze (by simp [ZN, ZE, ZG, ZH, Zy, Zj, Zw, Zm, Zo, Zb, Zc, Zn, Zz, ZA, ZI, ↓Zl, Zx, Zk, ZF, Zq, Zp, ZZ, ZD, Yk, put, lk, Od.v, Za, Zf, Zu, Yn, Yc, Yd, Ye, Yo, Yl, DV.isU, DV.cells, hget, ZO, Yb, ZP, Zv, splice, DV.one, ZQ, mat, Ya, Ym, w0]; exact ⟨rfl, rfl⟩)] | rw [ZR (by simp [lk, Za, Od.v, w0]; exact rfl)] | rw [Zq] | rw [Zp] | rw [ZJ] | rw [ZU] | rw [ZK] | rw [ZT] | rw [ZM] | rw [ZL] | rw [ZC] | rw [Zs] | rw [Zt] | rw [Zi (by decide)] | rw [Zr] | rw [Zg] | rw [Zh] | rw [Zd (by decide)] | rw [ZX] | rw [ZV (by simp [ZN, ZE, ZG, ZH, Zy, Zj, Zw, Zm, Zo, Zb, Zc, Zn, Zz, ZA, ZI, ↓Zl, Zx, Zk, ZF, Zq, Zp, ZZ, ZD, Yk, put, lk, Od.v, Za, Zf, Zu, Yn, Yc, Yd, Ye, Yo, Yl, DV.isU, DV.cells, hget, ZO, Yb, ZP, Zv, splice, DV.one, ZQ, mat, Ya, Ym, w0]; exact ⟨rfl, rfl⟩)] | rw [ZW (by simp [lk, Za, Od.v, w0]; exact rfl)] | rw [ZS]))
    rw [Yr]
    exact ⟨_, by simp [Za, lk]; exact rfl⟩
  | succ k ih =>
    intro i ex hk h1 hi
    by_cases w0 : i < b
    · obtain ⟨I, hI⟩ : ∃ I, I = i + 1 := ⟨_, rfl⟩
      obtain ⟨J, hJ⟩ : ∃ J, J = i - 1 := ⟨_, rfl⟩
      have w1 : IntKind.i64.wrap ((i : Int) + 1) = (I : Int) := (by rw [wrap64 _ (by omega) (by omega)]; omega)
      have w2 : IntKind.i64.wrap ((i : Int) - 1) = (J : Int) := (by rw [wrap64 _ (by omega) (by omega)]; omega)
      have u1 : i < n := by omega
      have u2 : J < n := by omega
      cases hp' : lt (el d i) (el d J)
      · have q := lt_neg hp'
        have hs : C X lp136_1 ((0, rw_ r g n) :: (1, .int .i64 a) :: (2, .int .i64 b) :: (3, .func 98 [] []) :: (9, .int .i64 i) :: (10, .int .i64 s) :: ex) (hp H r g d) = some (.norm, [(0, rw_ r g n), (1, .int .i64 a), (2, .int .i64 b), (3, .func 98 [] []), (9, .int .i64 I), (10, .int .i64 s)], hp H r g d) := by
          unfold lp136_1
          (repeat (first | rw [ZB] | rw [Ze (by simp [ZN, ZE, ZG, ZH, Zy, Zj, Zw, Zm, Zo, Zb, Zc, Zn, Zz, ZA, ZI, ↓Zl, Zx, Zk, ZF, Zq, Zp, ZZ, ZD, Yk, put, lk, Od.v, Za, Zf, Zu, Yn, Yc, Yd, Ye, Yo, Yl, DV.isU, DV.cells, hget, ZO, Yb, ZP, Zv, splice, DV.one, ZQ, mat, Ya, Ym, w0, w1, w2, u1, u2, hr, hd, Yy, rdS, run98, q]; exact ⟨rfl, rfl⟩)] | rw [ZR (by simp [lk, Za, Od.v, w0, w1, w2, u1, u2, hr, hd, Yy, rdS, run98, q]; exact rfl)] | rw [Zq] | rw [Zp] | rw [ZJ] | rw [ZU] | rw [ZK] | rw [ZT] | rw [ZM] | rw [ZL] | rw [ZC] | rw [Zs] | rw [Zt] | rw [Zi (by decide)] | rw [Zr] | rw [Zg] | rw [Zh] | rw [Zd (by decide)] | rw [ZX] | rw [ZV (by simp [ZN, ZE, ZG, ZH, Zy, Zj, Zw, Zm, Zo, Zb, Zc, Zn, Zz, ZA, ZI, ↓Zl, Zx, Zk, ZF, Zq, Zp, ZZ, ZD, Yk, put, lk, Od.v, Za, Zf, Zu, Yn, Yc, Yd, Ye, Yo, Yl, DV.isU, DV.cells, hget, ZO, Yb, ZP, Zv, splice, DV.one, ZQ, mat, Ya, Ym, w0, w1, w2, u1, u2, hr, hd, Yy, rdS, run98, q]; exact ⟨rfl, rfl⟩)] | rw [ZW (by simp [lk, Za, Od.v, w0, w1, w2, u1, u2, hr, hd, Yy, rdS, run98, q]; exact rfl)] | rw [ZS]))
          simp [Za, lk]
        have hdef : Go.Sort.scanSorted lt d b i = Go.Sort.scanSorted lt d b I := by
          rw [Go.Sort.scanSorted.eq_1 lt d b i, if_pos, hI]
          rw [hJ] at hp'
          unfold el at hp'
          simp [w0, hp']
        have h3 := ih I [] (by omega) (by omega) (by omega)
        rw [Yj, hs, Yu, hdef]
        exact ⟨h3.1, by omega, h3.2.2⟩
      · have q := lt_pos hp'
        have hdef : Go.Sort.scanSorted lt d b i = i := by
          rw [Go.Sort.scanSorted.eq_1 lt d b i, if_neg]
          rw [hJ] at hp'
          unfold el at hp'
          simp [hp']
        rw [hdef]
        refine ⟨?_, Nat.le_refl _, hi⟩
        rw [Yj]
        unfold lp136_1
        (repeat (first | rw [ZB] | rw [Ze (by simp [ZN, ZE, ZG, ZH, Zy, Zj, Zw, Zm, Zo, Zb, Zc, Zn, Zz, ZA, ZI, ↓Zl, Zx, Zk, ZF, Zq, Zp, ZZ, ZD, Yk, put, lk, Od.v, Za, Zf, Zu, Yn, Yc, Yd, Ye, Yo, Yl, DV.isU, DV.cells, hget, ZO, Yb, ZP, Zv, splice, DV.one, ZQ, mat, Ya, Ym, w0, w1, w2, u1, u2, hr, hd, Yy, rdS, run98, q]; exact ⟨rfl, rfl⟩)] | rw [ZR (by simp [lk, Za, Od.v, w0, w1, w2, u1, u2, hr, hd, Yy, rdS, run98, q]; exact rfl)] | rw [Zq] | rw [Zp] | rw [ZJ] | rw [ZU] | rw [ZK] | rw [ZT] | rw [ZM] | rw [ZL] | rw [ZC] | rw [Zs] | rw [Zt] | rw [Zi (by decide)] | rw [Zr] | rw [Zg] | rw [Zh] | rw [Zd (by decide)] | rw [ZX] | rw [ZV (by simp [ZN, ZE, ZG, ZH, Zy, Zj, Zw, Zm, Zo, Zb, Zc, Zn, Zz, ZA, ZI, ↓Zl, Zx, Zk, ZF, Zq, Zp, ZZ, ZD, Yk, put, lk, Od.v, Za, Zf, Zu, Yn, Yc, Yd, Ye, Yo, Yl, DV.isU, DV.cells, hget, ZO, Yb, ZP, Zv, splice, DV.one, ZQ, mat, Ya, Ym, w0, w1, w2, u1, u2, hr, hd, Yy, rdS, run98, q]; exact ⟨rfl, rfl⟩)] | rw [ZW (by simp [lk, Za, Od.v, w0, w1, w2, u1, u2, hr, hd, Yy, rdS, run98, q]; exact rfl)] | rw [ZS]))
        rw [Yr]
        exact ⟨_, by simp [Za, lk]; exact rfl⟩
    · exact ih i ex (by omega) h1 hi
theorem shiftDown_size : ∀ (j : Nat) (d : Array V), (Go.Sort.shiftDown lt j d).size = d.size
  | 0, d => rfl
  | j + 1, d => by
    rw [Go.Sort.shiftDown]
    split
    · rfl
    · rw [shiftDown_size j, swp_size]
theorem down48 {H : ZY} {r g n a b i : Nat} {s : Int} (hr : r < H.length) (hn : n ≤ 1000000) : ∀ (j : Nat) (d : Array V), d.size = n → j < n →
    ∃ x ex, C X (.loop lp136_2) [(0, rw_ r g n), (1, .int .i64 a), (2, .int .i64 b), (3, .func 98 [] []), (9, .int .i64 i), (10, .int .i64 s), (11, .int .i64 j)] (hp H r g d) =
      some (.exit 4, (0, rw_ r g n) :: (1, .int .i64 a) :: (2, .int .i64 b) :: (3, .func 98 [] []) :: (9, .int .i64 i) :: (10, .int .i64 s) :: (11, x) :: ex, hp H r g (Go.Sort.shiftDown lt j d)) := by
  intro j
  induction j with
  | zero =>
    intro d hd hj
    rw [Yj]
    unfold lp136_2
    (repeat (first | rw [ZB] | rw [Ze (by simp [ZN, ZE, ZG, ZH, Zy, Zj, Zw, Zm, Zo, Zb, Zc, Zn, Zz, ZA, ZI, ↓Zl, Zx, Zk, ZF, Zq, Zp, ZZ, ZD, Yk, put, lk, Od.v, Za, Zf, Zu, Yn, Yc, Yd, Ye, Yo, Yl, DV.isU, DV.cells, hget, ZO, Yb, ZP, Zv, splice, DV.one, ZQ, mat, Ya, Ym]; exact ⟨rfl, rfl⟩)] | rw [ZR (by simp [lk, Za, Od.v]; exact rfl)] | rw [Zq] | rw [Zp] | rw [ZJ] | rw [ZU] | rw [ZK] | rw [ZT] | rw [ZM] | rw [ZL] | rw [ZC] | rw [Zs] | rw [Zt] | rw [Zi (by decide)] | rw [Zr] | rw [Zg] | rw [Zh] | rw [Zd (by decide)] | rw [ZX] | rw [ZV (by simp [ZN, ZE, ZG, ZH, Zy, Zj, Zw, Zm, Zo, Zb, Zc, Zn, Zz, ZA, ZI, ↓Zl, Zx, Zk, ZF, Zq, Zp, ZZ, ZD, Yk, put, lk, Od.v, Za, Zf, Zu, Yn, Yc, Yd, Ye, Yo, Yl, DV.isU, DV.cells, hget, ZO, Yb, ZP, Zv, splice, DV.one, ZQ, mat, Ya, Ym]; exact ⟨rfl, rfl⟩)] | rw [ZW (by simp [lk, Za, Od.v]; exact rfl)] | rw [ZS]))
    rw [Yr]
    exact ⟨_, _, by simp [Za, lk, Go.Sort.shiftDown]; exact ⟨rfl, rfl⟩⟩
  | succ J ih =>
    intro d hd hj
    obtain ⟨j, hJ⟩ : ∃ j, j = J + 1 := ⟨_, rfl⟩
    rw [← hJ]
    have hdef : Go.Sort.shiftDown lt j d = if (!lt (el d j) (el d J)) = true then d else Go.Sort.shiftDown lt J (Go.Sort.swp d j J) := by rw [hJ, Go.Sort.shiftDown]; rfl
    rw [hdef]
    have w0 : (1 : Int) ≤ j := by omega
    have w1 : IntKind.i64.wrap ((j : Int) - 1) = (J : Int) := (by rw [wrap64 _ (by omega) (by omega)]; omega)
    have u1 : j < n := by omega
    have u2 : J < n := by omega
    cases hp' : lt (el d j) (el d J)
    · have q := lt_neg hp'
      rw [if_pos (show (!false) = true from rfl), Yj]
      unfold lp136_2
      (repeat (first | rw [ZB] | rw [Ze (by simp [ZN, ZE, ZG, ZH, Zy, Zj, Zw, Zm, Zo, Zb, Zc, Zn, Zz, ZA, ZI, ↓Zl, Zx, Zk, ZF, Zq, Zp, ZZ, ZD, Yk, put, lk, Od.v, Za, Zf, Zu, Yn, Yc, Yd, Ye, Yo, Yl, DV.isU, DV.cells, hget, ZO, Yb, ZP, Zv, splice, DV.one, ZQ, mat, Ya, Ym, w0, w1, u1, u2, hr, hd, Yy, rdS, run98, q]; exact ⟨rfl, rfl⟩)] | rw [ZR (by simp [lk, Za, Od.v, w0, w1, u1, u2, hr, hd, Yy, rdS, run98, q]; exact rfl)] | rw [Zq] | rw [Zp] | rw [ZJ] | rw [ZU] | rw [ZK] | rw [ZT] | rw [ZM] | rw [ZL] | rw [ZC] | rw [Zs] | rw [Zt] | rw [Zi (by decide)] | rw [Zr] | rw [Zg] | rw [Zh] | rw [Zd (by decide)] | rw [ZX] | rw [ZV (by simp [ZN, ZE, ZG, ZH, Zy, Zj, Zw, Zm, Zo, Zb, Zc, Zn, Zz, ZA, ZI, ↓Zl, Zx, Zk, ZF, Zq, Zp, ZZ, ZD, Yk, put, lk, Od.v, Za, Zf, Zu, Yn, Yc, Yd, Ye, Yo, Yl, DV.isU, DV.cells, hget, ZO, Yb, ZP, Zv, splice, DV.one, ZQ, mat, Ya, Ym, w0, w1, u1, u2, hr, hd, Yy, rdS, run98, q]; exact ⟨rfl, rfl⟩)] | rw [ZW (by simp [lk, Za, Od.v, w0, w1, u1, u2, hr, hd, Yy, rdS, run98, q]; exact rfl)] | rw [ZS]))
      rw [Yr]
      exact ⟨_, _, by simp [Za, lk]; exact ⟨rfl, rfl⟩⟩
    · have q := lt_pos hp'
      have hs : C X lp136_2 [(0, rw_ r g n), (1, .int .i64 a), (2, .int .i64 b), (3, .func 98 [] []), (9, .int .i64 i), (10, .int .i64 s), (11, .int .i64 j)] (hp H r g d) = some (.norm, [(0, rw_ r g n), (1, .int .i64 a), (2, .int .i64 b), (3, .func 98 [] []), (9, .int .i64 i), (10, .int .i64 s), (11, .int .i64 J)], hp H r g (Go.Sort.swp d j J)) := by
        unfold lp136_2
        rw [swp_upd]
        (repeat (first | rw [ZB] | rw [Ze (by simp [ZN, ZE, ZG, ZH, Zy, Zj, Zw, Zm, Zo, Zb, Zc, Zn, Zz, ZA, ZI, ↓Zl, Zx, Zk, ZF, Zq, Zp, ZZ, ZD, Yk, put, lk, Od.v, Za, Zf, Zu, Yn, Yc, Yd, Ye, Yo, Yl, DV.isU, DV.cells, hget, ZO, Yb, ZP, Zv, splice, DV.one, ZQ, mat, Ya, Ym, w0, w1, u1, u2, hr, hd, Yy, rdS, wrS, Yh, run98, q]; exact ⟨rfl, rfl⟩)] | rw [ZR (by simp [lk, Za, Od.v, w0, w1, u1, u2, hr, hd, Yy, rdS, wrS, Yh, run98, q]; exact rfl)] | rw [Zq] | rw [Zp] | rw [ZJ] | rw [ZU] | rw [ZK] | rw [ZT] | rw [ZM] | rw [ZL] | rw [ZC] | rw [Zs] | rw [Zt] | rw [Zi (by decide)] | rw [Zr] | rw [Zg] | rw [Zh] | rw [Zd (by decide)] | rw [ZX] | rw [ZV (by simp [ZN, ZE, ZG, ZH, Zy, Zj, Zw, Zm, Zo, Zb, Zc, Zn, Zz, ZA, ZI, ↓Zl, Zx, Zk, ZF, Zq, Zp, ZZ, ZD, Yk, put, lk, Od.v, Za, Zf, Zu, Yn, Yc, Yd, Ye, Yo, Yl, DV.isU, DV.cells, hget, ZO, Yb, ZP, Zv, splice, DV.one, ZQ, mat, Ya, Ym, w0, w1, u1, u2, hr, hd, Yy, rdS, wrS, Yh, run98, q]; exact ⟨rfl, rfl⟩)] | rw [ZW (by simp [lk, Za, Od.v, w0, w1, u1, u2, hr, hd, Yy, rdS, wrS, Yh, run98, q]; exact rfl)] | rw [ZS]))
        simp [Za, lk]
      rw [Yj, hs, Yu, if_neg (show ¬ (!true) = true by simp)]
      exact ih _ (by rw [swp_size, hd]) (by omega)
theorem shiftUp_size (b : Nat) : ∀ (k j : Nat) (d : Array V), b - j ≤ k → (Go.Sort.shiftUp lt b j d).size = d.size := by
  intro k
  induction k with
  | zero => intro j d h; rw [Go.Sort.shiftUp, if_neg (by omega)]
  | succ k ih =>
    intro j d h
    rw [Go.Sort.shiftUp]
    split
    · split
      · rfl
      · rw [ih _ _ (by omega), swp_size]
    · rfl
theorem up48 {H : ZY} {r g n a b i : Nat} {s : Int} (hr : r < H.length) (hn : n ≤ 1000000) (hb : b ≤ n) : ∀ (k j : Nat) (d : Array V), b - j ≤ k → d.size = n → 1 ≤ j → j ≤ n →
    ∃ x ex, C X (.loop lp136_3) [(0, rw_ r g n), (1, .int .i64 a), (2, .int .i64 b), (3, .func 98 [] []), (9, .int .i64 i), (10, .int .i64 s), (12, .int .i64 j)] (hp H r g d) =
      some (.exit 6, (0, rw_ r g n) :: (1, .int .i64 a) :: (2, .int .i64 b) :: (3, .func 98 [] []) :: (9, .int .i64 i) :: (10, .int .i64 s) :: (12, x) :: ex, hp H r g (Go.Sort.shiftUp lt b j d)) := by
  intro k
  induction k with
  | zero =>
    intro j d hk hd h1 hj
    have w0 : ¬ j < b := by omega
    rw [Yj, Go.Sort.shiftUp, if_neg w0]
    unfold lp136_3
    (repeat (first | rw [ZB] | rw [Ze (by simp [ZN, ZE, ZG, ZH, Zy, Zj, Zw, Zm, Zo, Zb, Zc, Zn, Zz, ZA, ZI, ↓Zl, Zx, Zk, ZF, Zq, Zp, ZZ, ZD, Yk, put, lk, Od.v, Za, Zf, Zu, Yn, Yc, Yd, Ye, Yo, Yl, DV.isU, DV.cells, hget, ZO, Yb, ZP, Zv, splice, DV.one, ZQ, mat, Ya, Ym, w0]; exact ⟨rfl, rfl⟩)] | rw [ZR (by simp [lk, Za, Od.v, w0]; exact rfl)] | rw [Zq] | rw [Zp] | rw [ZJ] | rw [ZU] | rw [ZK] | rw [ZT] | rw [ZM] | rw [ZL] | rw [ZC] | rw [Zs] | rw [Zt] | rw [Zi (by decide)] | rw [Zr] | rw [Zg] | rw [Zh] | rw [Zd (by decide)] | rw [ZX] | rw [ZV (by simp [ZN, ZE, ZG, ZH, Zy, Zj, Zw, Zm, Zo, Zb, Zc, Zn, Zz, ZA, ZI, ↓Zl, Zx, Zk, ZF, Zq, Zp, ZZ, ZD, Yk, put, lk, Od.v, Za, Zf, Zu, Yn, Yc, Yd, Ye, Yo, Yl, DV.isU, DV.cells, hget, ZO, Yb, ZP, Zv, splice, DV.one, ZQ, mat, Ya, Ym, w0]; exact ⟨rfl, rfl⟩)] | rw [ZW (by simp [lk, Za, Od.v, w0]; exact rfl)] | rw [ZS]))
    rw [Yr]
    exact ⟨_, _, by simp [Za, lk]; exact ⟨rfl, rfl⟩⟩
  | succ k ih =>
    intro j d hk hd h1 hj
    by_cases w0 : j < b
    · obtain ⟨J, hJ⟩ : ∃ J, J = j - 1 := ⟨_, rfl⟩
      obtain ⟨K, hK⟩ : ∃ K, K = j + 1 := ⟨_, rfl⟩
      have w1 : IntKind.i64.wrap ((j : Int) - 1) = (J : Int) := (by rw [wrap64 _ (by omega) (by omega)]; omega)
      have w2 : IntKind.i64.wrap ((j : Int) + 1) = (K : Int) := (by rw [wrap64 _ (by omega) (by omega)]; omega)
      have u1 : j < n := by omega
      have u2 : J < n := by omega
      have hdef : Go.Sort.shiftUp lt b j d = if (!lt (el d j) (el d J)) = true then d else Go.Sort.shiftUp lt b K (Go.Sort.swp d j J) := by rw [Go.Sort.shiftUp.eq_1 lt b j d, if_pos w0, hJ, hK]; rfl
      rw [hdef]
      cases hp' : lt (el d j) (el d J)
      · have q := lt_neg hp'
        rw [if_pos (show (!false) = true from rfl), Yj]
        unfold lp136_3
        (repeat (first | rw [ZB] | rw [Ze (by simp [ZN, ZE, ZG, ZH, Zy, Zj, Zw, Zm, Zo, Zb, Zc, Zn, Zz, ZA, ZI, ↓Zl, Zx, Zk, ZF, Zq, Zp, ZZ, ZD, Yk, put, lk, Od.v, Za, Zf, Zu, Yn, Yc, Yd, Ye, Yo, Yl, DV.isU, DV.cells, hget, ZO, Yb, ZP, Zv, splice, DV.one, ZQ, mat, Ya, Ym, w0, w1, w2, u1, u2, hr, hd, Yy, rdS, run98, q]; exact ⟨rfl, rfl⟩)] | rw [ZR (by simp [lk, Za, Od.v, w0, w1, w2, u1, u2, hr, hd, Yy, rdS, run98, q]; exact rfl)] | rw [Zq] | rw [Zp] | rw [ZJ] | rw [ZU] | rw [ZK] | rw [ZT] | rw [ZM] | rw [ZL] | rw [ZC] | rw [Zs] | rw [Zt] | rw [Zi (by decide)] | rw [Zr] | rw [Zg] | rw [Zh] | rw [Zd (by decide)] | rw [ZX] | rw [ZV (by simp [ZN, ZE, ZG, ZH, Zy, Zj, Zw, Zm, Zo, Zb, Zc, Zn, Zz, ZA, ZI, ↓Zl, Zx, Zk, ZF, Zq, Zp, ZZ, ZD, Yk, put, lk, Od.v, Za, Zf, Zu, Yn, Yc, Yd, Ye, Yo, Yl, DV.isU, DV.cells, hget, ZO, Yb, ZP, Zv, splice, DV.one, ZQ, mat, Ya, Ym, w0, w1, w2, u1, u2, hr, hd, Yy, rdS, run98, q]; exact ⟨rfl, rfl⟩)] | rw [ZW (by simp [lk, Za, Od.v, w0, w1, w2, u1, u2, hr, hd, Yy, rdS, run98, q]; exact rfl)] | rw [ZS]))
        rw [Yr]
        exact ⟨_, _, by simp [Za, lk]; exact ⟨rfl, rfl⟩⟩
      · have q := lt_pos hp'
        have hs : C X lp136_3 [(0, rw_ r g n), (1, .int .i64 a), (2, .int .i64 b), (3, .func 98 [] []), (9, .int .i64 i), (10, .int .i64 s), (12, .int .i64 j)] (hp H r g d) = some (.norm, [(0, rw_ r g n), (1, .int .i64 a), (2, .int .i64 b), (3, .func 98 [] []), (9, .int .i64 i), (10, .int .i64 s), (12, .int .i64 K)], hp H r g (Go.Sort.swp d j J)) := by
          unfold lp136_3
          rw [swp_upd]
          (repeat (first | rw [ZB] | rw [Ze (by simp [ZN, ZE, ZG, ZH, Zy, Zj, Zw, Zm, Zo, Zb, Zc, Zn, Zz, ZA, ZI, ↓Zl, Zx, Zk, ZF, Zq, Zp, ZZ, ZD, Yk, put, lk, Od.v, Za, Zf, Zu, Yn, Yc, Yd, Ye, Yo, Yl, DV.isU, DV.cells, hget, ZO, Yb, ZP, Zv, splice, DV.one, ZQ, mat, Ya, Ym, w0, w1, w2, u1, u2, hr, hd, Yy, rdS, wrS, Yh, run98, q]; exact ⟨rfl, rfl⟩)] | rw [ZR (by simp [lk, Za, Od.v, w0, w1, w2, u1, u2, hr, hd, Yy, rdS, wrS, Yh, run98, q]; exact rfl)] | rw [Zq] | rw [Zp] | rw [ZJ] | rw [ZU] | rw [ZK] | rw [ZT] | rw [ZM] | rw [ZL] | rw [ZC] | rw [Zs] | rw [Zt] | rw [Zi (by decide)] | rw [Zr] | rw [Zg] | rw [Zh] | rw [Zd (by decide)] | rw [ZX] | rw [ZV (by simp [ZN, ZE, ZG, ZH, Zy, Zj, Zw, Zm, Zo, Zb, Zc, Zn, Zz, ZA, ZI, ↓Zl, Zx, Zk, ZF, Zq, Zp, ZZ, ZD, Yk, put, lk, Od.v, Za, Zf, Zu, Yn, Yc, Yd, Ye, Yo, Yl, DV.isU, DV.cells, hget, ZO, Yb, ZP, Zv, splice, DV.one, ZQ, mat, Ya, Ym, w0, w1, w2, u1, u2, hr, hd, Yy, rdS, wrS, Yh, run98, q]; exact ⟨rfl, rfl⟩)] | rw [ZW (by simp [lk, Za, Od.v, w0, w1, w2, u1, u2, hr, hd, Yy, rdS, wrS, Yh, run98, q]; exact rfl)] | rw [ZS]))
          simp [Za, lk]
        rw [Yj, hs, Yu, if_neg (show ¬ (!true) = true by simp)]
        exact ih K _ (by omega) (by rw [swp_size, hd]) (by omega) (by omega)
    · exact ih j d (by omega) hd h1 hj
theorem loop136 {H : ZY} {r g n a b : Nat} (hr : r < H.length) (hn : n ≤ 1000000) (hb : b ≤ n) (hab : a < b) : ∀ (s i : Nat) (d : Array V), s ≤ 5 → a + 1 ≤ i → i ≤ b → d.size = n →
    ((C X (.loop lp136_0) [(0, rw_ r g n), (1, .int .i64 a), (2, .int .i64 b), (3, .func 98 [] []), (9, .int .i64 i), (10, .int .i64 (5 - s : Int))] (hp H r g d) = some (.ret, [(8, .bool (Go.Sort.partialIns lt a b s i d).2)], hp H r g (Go.Sort.partialIns lt a b s i d).1)) ∨
    ((Go.Sort.partialIns lt a b s i d).2 = false ∧ ∃ e', C X (.loop lp136_0) [(0, rw_ r g n), (1, .int .i64 a), (2, .int .i64 b), (3, .func 98 [] []), (9, .int .i64 i), (10, .int .i64 (5 - s : Int))] (hp H r g d) = some (.exit 0, e', hp H r g (Go.Sort.partialIns lt a b s i d).1))) ∧ (Go.Sort.partialIns lt a b s i d).1.size = n := by
  intro s
  induction s with
  | zero =>
    intro i d hs ha hi hd
    refine ⟨.inr ⟨rfl, ?_⟩, hd⟩
    rw [Yj]
    unfold lp136_0
    (repeat (first | rw [ZB] | rw [Ze (by simp [ZN, ZE, ZG, ZH, Zy, Zj, Zw, Zm, Zo, Zb, Zc, Zn, Zz, ZA, ZI, ↓Zl, Zx, Zk, ZF, Zq, Zp, ZZ, ZD, Yk, put, lk, Od.v, Za, Zf, Zu, Yn, Yc, Yd, Ye, Yo, Yl, DV.isU, DV.cells, hget, ZO, Yb, ZP, Zv, splice, DV.one, ZQ, mat, Ya, Ym]; exact ⟨rfl, rfl⟩)] | rw [ZR (by simp [lk, Za, Od.v]; exact rfl)] | rw [Zq] | rw [Zp] | rw [ZJ] | rw [ZU] | rw [ZK] | rw [ZT] | rw [ZM] | rw [ZL] | rw [ZC] | rw [Zs] | rw [Zt] | rw [Zi (by decide)] | rw [Zr] | rw [Zg] | rw [Zh] | rw [Zd (by decide)] | rw [ZX] | rw [ZV (by simp [ZN, ZE, ZG, ZH, Zy, Zj, Zw, Zm, Zo, Zb, Zc, Zn, Zz, ZA, ZI, ↓Zl, Zx, Zk, ZF, Zq, Zp, ZZ, ZD, Yk, put, lk, Od.v, Za, Zf, Zu, Yn, Yc, Yd, Ye, Yo, Yl, DV.isU, DV.cells, hget, ZO, Yb, ZP, Zv, splice, DV.one, ZQ, mat, Ya, Ym]; exact ⟨rfl, rfl⟩)] | rw [ZW (by simp [lk, Za, Od.v]; exact rfl)] | rw [ZS]))
    rw [Yr]
    exact ⟨_, rfl⟩
  | succ s ih =>
    intro i d hs ha hi hd
    obtain ⟨S, hS⟩ : ∃ S : Int, S = 5 - ((s + 1 : Nat) : Int) := ⟨_, rfl⟩
    rw [← hS]
    have v0 : S < 5 := by omega
    have v1 : IntKind.i64.wrap (S + 1) = 5 - (s : Int) := (by rw [wrap64 _ (by omega) (by omega)]; omega)
    obtain ⟨⟨y, c1⟩, b1, b2⟩ := scan48 (H := H) (r := r) (g := g) (n := n) (a := a) (b := b) (s := S) hr hn hb d hd b i [(16, .bool true)] (by omega) (by omega) hi
    obtain ⟨i2, hi2⟩ : ∃ i2, i2 = Go.Sort.scanSorted lt d b i := ⟨_, rfl⟩
    rw [← hi2] at c1 b1 b2
    obtain ⟨d2, hd2⟩ : ∃ d2, d2 = Go.Sort.swp d i2 (i2 - 1) := ⟨_, rfl⟩
    obtain ⟨d3, hd3⟩ : ∃ d3, d3 = if i2 - a ≥ 2 then Go.Sort.shiftDown lt (i2 - 1) d2 else d2 := ⟨_, rfl⟩
    obtain ⟨d4, hd4⟩ : ∃ d4, d4 = if b - i2 ≥ 2 then Go.Sort.shiftUp lt b (i2 + 1) d3 else d3 := ⟨_, rfl⟩
    have hdef : Go.Sort.partialIns lt a b (s + 1) i d = if i2 = b then (d, true) else if b - a < 50 then (d, false) else Go.Sort.partialIns lt a b s i2 d4 := by
      rw [Go.Sort.partialIns, hd4, hd3, hd2, hi2]
    rw [hdef]
    by_cases g1 : i2 = b
    · rw [if_pos g1]
      refine ⟨.inl ?_, hd⟩
      have g1' : ((i2 : Int) == b) = true := by simp [g1]
      rw [Yj]
      unfold lp136_0
      (repeat (first | rw [ZB] | rw [Ze (by simp [ZN, ZE, ZG, ZH, Zy, Zj, Zw, Zm, Zo, Zb, Zc, Zn, Zz, ZA, ZI, ↓Zl, Zx, Zk, ZF, Zq, Zp, ZZ, ZD, Yk, put, lk, Od.v, Za, Zf, Zu, Yn, Yc, Yd, Ye, Yo, Yl, DV.isU, DV.cells, hget, ZO, Yb, ZP, Zv, splice, DV.one, ZQ, mat, Ya, Ym, v0]; exact ⟨rfl, rfl⟩)] | rw [ZR (by simp [lk, Za, Od.v, v0]; exact rfl)] | rw [Zq] | rw [Zp] | rw [ZJ] | rw [ZU] | rw [ZK] | rw [ZT] | rw [ZM] | rw [ZL] | rw [ZC] | rw [Zs] | rw [Zt] | rw [Zi (by decide)] | rw [Zr] | rw [Zg] | rw [Zh] | rw [Zd (by decide)] | rw [ZX] | rw [ZV (by simp [ZN, ZE, ZG, ZH, Zy, Zj, Zw, Zm, Zo, Zb, Zc, Zn, Zz, ZA, ZI, ↓Zl, Zx, Zk, ZF, Zq, Zp, ZZ, ZD, Yk, put, lk, Od.v, Za, Zf, Zu, Yn, Yc, Yd, Ye, Yo, Yl, DV.isU, DV.cells, hget, ZO, Yb, ZP, Zv, splice, DV.one, ZQ, mat, Ya, Ym, v0]; exact ⟨rfl, rfl⟩)] | rw [ZW (by simp [lk, Za, Od.v, v0]; exact rfl)] | rw [ZS]))
      (try simp only [Za, List.map_cons, List.map_nil, lk, reduceIte, Nat.reduceEqDiff, Nat.zero_ne_one, Nat.one_ne_zero])
      rw [c1]
      (repeat (first | rw [ZB] | rw [Ze (by simp [ZN, ZE, ZG, ZH, Zy, Zj, Zw, Zm, Zo, Zb, Zc, Zn, Zz, ZA, ZI, ↓Zl, Zx, Zk, ZF, Zq, Zp, ZZ, ZD, Yk, put, lk, Od.v, Za, Zf, Zu, Yn, Yc, Yd, Ye, Yo, Yl, DV.isU, DV.cells, hget, ZO, Yb, ZP, Zv, splice, DV.one, ZQ, mat, Ya, Ym, g1, g1']; exact ⟨rfl, rfl⟩)] | rw [ZR (by simp [lk, Za, Od.v, g1, g1']; exact rfl)] | rw [Zq] | rw [Zp] | rw [ZJ] | rw [ZU] | rw [ZK] | rw [ZT] | rw [ZM] | rw [ZL] | rw [ZC] | rw [Zs] | rw [Zt] | rw [Zi (by decide)] | rw [Zr] | rw [Zg] | rw [Zh] | rw [Zd (by decide)] | rw [ZX] | rw [ZV (by simp [ZN, ZE, ZG, ZH, Zy, Zj, Zw, Zm, Zo, Zb, Zc, Zn, Zz, ZA, ZI, ↓Zl, Zx, Zk, ZF, Zq, Zp, ZZ, ZD, Yk, put, lk, Od.v, Za, Zf, Zu, Yn, Yc, Yd, Ye, Yo, Yl, DV.isU, DV.cells, hget, ZO, Yb, ZP, Zv, splice, DV.one, ZQ, mat, Ya, Ym, g1, g1']; exact ⟨rfl, rfl⟩)] | rw [ZW (by simp [lk, Za, Od.v, g1, g1']; exact rfl)] | rw [ZS]))
      rw [lp_ret]
      simp [Za, lk]
    rw [if_neg g1]
    have g1' : ((i2 : Int) == b) = false := by simp only [beq_eq_false_iff_ne, ne_eq]; omega
    obtain ⟨l, hl⟩ : ∃ l, l = b - a := ⟨_, rfl⟩
    have w1 : IntKind.i64.wrap ((b : Int) - a) = (l : Int) := (by rw [wrap64 _ (by omega) (by omega)]; omega)
    by_cases g2 : l < 50
    · rw [if_pos (by omega)]
      refine ⟨.inl ?_, hd⟩
      have g2' : (l : Int) < 50 := by omega
      rw [Yj]
      unfold lp136_0
      (repeat (first | rw [ZB] | rw [Ze (by simp [ZN, ZE, ZG, ZH, Zy, Zj, Zw, Zm, Zo, Zb, Zc, Zn, Zz, ZA, ZI, ↓Zl, Zx, Zk, ZF, Zq, Zp, ZZ, ZD, Yk, put, lk, Od.v, Za, Zf, Zu, Yn, Yc, Yd, Ye, Yo, Yl, DV.isU, DV.cells, hget, ZO, Yb, ZP, Zv, splice, DV.one, ZQ, mat, Ya, Ym, v0]; exact ⟨rfl, rfl⟩)] | rw [ZR (by simp [lk, Za, Od.v, v0]; exact rfl)] | rw [Zq] | rw [Zp] | rw [ZJ] | rw [ZU] | rw [ZK] | rw [ZT] | rw [ZM] | rw [ZL] | rw [ZC] | rw [Zs] | rw [Zt] | rw [Zi (by decide)] | rw [Zr] | rw [Zg] | rw [Zh] | rw [Zd (by decide)] | rw [ZX] | rw [ZV (by simp [ZN, ZE, ZG, ZH, Zy, Zj, Zw, Zm, Zo, Zb, Zc, Zn, Zz, ZA, ZI, ↓Zl, Zx, Zk, ZF, Zq, Zp, ZZ, ZD, Yk, put, lk, Od.v, Za, Zf, Zu, Yn, Yc, Yd, Ye, Yo, Yl, DV.isU, DV.cells, hget, ZO, Yb, ZP, Zv, splice, DV.one, ZQ, mat, Ya, Ym, v0]; exact ⟨rfl, rfl⟩)] | rw [ZW (by simp [lk, Za, Od.v, v0]; exact rfl)] | rw [ZS]))
      (try simp only [Za, List.map_cons, List.map_nil, lk, reduceIte, Nat.reduceEqDiff, Nat.zero_ne_one, Nat.one_ne_zero])
      rw [c1]
      (repeat (first | rw [ZB] | rw [Ze (by simp [ZN, ZE, ZG, ZH, Zy, Zj, Zw, Zm, Zo, Zb, Zc, Zn, Zz, ZA, ZI, ↓Zl, Zx, Zk, ZF, Zq, Zp, ZZ, ZD, Yk, put, lk, Od.v, Za, Zf, Zu, Yn, Yc, Yd, Ye, Yo, Yl, DV.isU, DV.cells, hget, ZO, Yb, ZP, Zv, splice, DV.one, ZQ, mat, Ya, Ym, g1', w1, g2, g2']; exact ⟨rfl, rfl⟩)] | rw [ZR (by simp [lk, Za, Od.v, g1', w1, g2, g2']; exact rfl)] | rw [Zq] | rw [Zp] | rw [ZJ] | rw [ZU] | rw [ZK] | rw [ZT] | rw [ZM] | rw [ZL] | rw [ZC] | rw [Zs] | rw [Zt] | rw [Zi (by decide)] | rw [Zr] | rw [Zg] | rw [Zh] | rw [Zd (by decide)] | rw [ZX] | rw [ZV (by simp [ZN, ZE, ZG, ZH, Zy, Zj, Zw, Zm, Zo, Zb, Zc, Zn, Zz, ZA, ZI, ↓Zl, Zx, Zk, ZF, Zq, Zp, ZZ, ZD, Yk, put, lk, Od.v, Za, Zf, Zu, Yn, Yc, Yd, Ye, Yo, Yl, DV.isU, DV.cells, hget, ZO, Yb, ZP, Zv, splice, DV.one, ZQ, mat, Ya, Ym, g1', w1, g2, g2']; exact ⟨rfl, rfl⟩)] | rw [ZW (by simp [lk, Za, Od.v, g1', w1, g2, g2']; exact rfl)] | rw [ZS]))
      rw [lp_ret]
      simp [Za, lk]
    rw [if_neg (by omega)]
    have g2' : ¬ (l : Int) < 50 := by omega
    obtain ⟨j, hj⟩ : ∃ j, j = i2 - 1 := ⟨_, rfl⟩
    obtain ⟨K, hK⟩ : ∃ K, K = i2 + 1 := ⟨_, rfl⟩
    obtain ⟨p, hp'⟩ : ∃ p, p = i2 - a := ⟨_, rfl⟩
    obtain ⟨q, hq⟩ : ∃ q, q = b - i2 := ⟨_, rfl⟩
    rw [← hj] at hd2 hd3
    rw [← hp'] at hd3
    rw [← hK, ← hq] at hd4
    have w2 : IntKind.i64.wrap ((i2 : Int) - 1) = (j : Int) := (by rw [wrap64 _ (by omega) (by omega)]; omega)
    have w3 : IntKind.i64.wrap ((i2 : Int) + 1) = (K : Int) := (by rw [wrap64 _ (by omega) (by omega)]; omega)
    have w4 : IntKind.i64.wrap ((i2 : Int) - a) = (p : Int) := (by rw [wrap64 _ (by omega) (by omega)]; omega)
    have w5 : IntKind.i64.wrap ((b : Int) - i2) = (q : Int) := (by rw [wrap64 _ (by omega) (by omega)]; omega)
    have u1 : i2 < n := by omega
    have u2 : j < n := by omega
    have z2 : d2.size = n := by rw [hd2, swp_size, hd]
    have z3 : d3.size = n := by rw [hd3]; split <;> simp [shiftDown_size, z2]
    have z4 : d4.size = n := by rw [hd4]; split <;> simp [shiftUp_size b b _ _ (Nat.sub_le _ _), z3]
    have hd2' : hp H r g (upA (upA d i2 (el d j)) j (el d i2)) = hp H r g d2 := by rw [hd2, swp_upd]
    have h9 := ih i2 d4 (by omega) (by omega) (by omega) z4
    have hs : C X lp136_0 [(0, rw_ r g n), (1, .int .i64 a), (2, .int .i64 b), (3, .func 98 [] []), (9, .int .i64 i), (10, .int .i64 S)] (hp H r g d) = some (.norm, [(0, rw_ r g n), (1, .int .i64 a), (2, .int .i64 b), (3, .func 98 [] []), (9, .int .i64 i2), (10, .int .i64 (5 - s : Int))], hp H r g d4) := by
      by_cases gp : 2 ≤ p
      · have gp' : (2 : Int) ≤ p := by omega
        rw [if_pos gp] at hd3
        obtain ⟨x3, ex3, c3⟩ := down48 (H := H) (r := r) (g := g) (n := n) (a := a) (b := b) (i := i2) (s := S) hr hn j d2 z2 u2
        rw [← hd3] at c3
        by_cases gq : 2 ≤ q
        · have gq' : (2 : Int) ≤ q := by omega
          rw [if_pos gq] at hd4
          obtain ⟨x4, ex4, c4⟩ := up48 (H := H) (r := r) (g := g) (n := n) (a := a) (b := b) (i := i2) (s := S) hr hn hb n K d3 (by omega) z3 (by omega) (by omega)
          rw [← hd4] at c4
          unfold lp136_0
          (repeat (first | rw [ZB] | rw [Ze (by simp [ZN, ZE, ZG, ZH, Zy, Zj, Zw, Zm, Zo, Zb, Zc, Zn, Zz, ZA, ZI, ↓Zl, Zx, Zk, ZF, Zq, Zp, ZZ, ZD, Yk, put, lk, Od.v, Za, Zf, Zu, Yn, Yc, Yd, Ye, Yo, Yl, DV.isU, DV.cells, hget, ZO, Yb, ZP, Zv, splice, DV.one, ZQ, mat, Ya, Ym, v0]; exact ⟨rfl, rfl⟩)] | rw [ZR (by simp [lk, Za, Od.v, v0]; exact rfl)] | rw [Zq] | rw [Zp] | rw [ZJ] | rw [ZU] | rw [ZK] | rw [ZT] | rw [ZM] | rw [ZL] | rw [ZC] | rw [Zs] | rw [Zt] | rw [Zi (by decide)] | rw [Zr] | rw [Zg] | rw [Zh] | rw [Zd (by decide)] | rw [ZX] | rw [ZV (by simp [ZN, ZE, ZG, ZH, Zy, Zj, Zw, Zm, Zo, Zb, Zc, Zn, Zz, ZA, ZI, ↓Zl, Zx, Zk, ZF, Zq, Zp, ZZ, ZD, Yk, put, lk, Od.v, Za, Zf, Zu, Yn, Yc, Yd, Ye, Yo, Yl, DV.isU, DV.cells, hget, ZO, Yb, ZP, Zv, splice, DV.one, ZQ, mat, Ya, Ym, v0]; exact ⟨rfl, rfl⟩)] | rw [ZW (by simp [lk, Za, Od.v, v0]; exact rfl)] | rw [ZS]))
          (try simp only [Za, List.map_cons, List.map_nil, lk, reduceIte, Nat.reduceEqDiff, Nat.zero_ne_one, Nat.one_ne_zero])
          rw [c1]
          (repeat (first | rw [ZB] | rw [Ze (by simp [ZN, ZE, ZG, ZH, Zy, Zj, Zw, Zm, Zo, Zb, Zc, Zn, Zz, ZA, ZI, ↓Zl, Zx, Zk, ZF, Zq, Zp, ZZ, ZD, Yk, put, lk, Od.v, Za, Zf, Zu, Yn, Yc, Yd, Ye, Yo, Yl, DV.isU, DV.cells, hget, ZO, Yb, ZP, Zv, splice, DV.one, ZQ, mat, Ya, Ym, g1', w1, w2, w3, w4, w5, g2, g2', gp', gq', u1, u2, hr, hd, Yy, rdS, wrS, Yh, hd2']; exact ⟨rfl, rfl⟩)] | rw [ZR (by simp [lk, Za, Od.v, g1', w1, w2, w3, w4, w5, g2, g2', gp', gq', u1, u2, hr, hd, Yy, rdS, wrS, Yh, hd2']; exact rfl)] | rw [Zq] | rw [Zp] | rw [ZJ] | rw [ZU] | rw [ZK] | rw [ZT] | rw [ZM] | rw [ZL] | rw [ZC] | rw [Zs] | rw [Zt] | rw [Zi (by decide)] | rw [Zr] | rw [Zg] | rw [Zh] | rw [Zd (by decide)] | rw [ZX] | rw [ZV (by simp [ZN, ZE, ZG, ZH, Zy, Zj, Zw, Zm, Zo, Zb, Zc, Zn, Zz, ZA, ZI, ↓Zl, Zx, Zk, ZF, Zq, Zp, ZZ, ZD, Yk, put, lk, Od.v, Za, Zf, Zu, Yn, Yc, Yd, Ye, Yo, Yl, DV.isU, DV.cells, hget, ZO, Yb, ZP, Zv, splice, DV.one, ZQ, mat, Ya, Ym, g1', w1, w2, w3, w4, w5, g2, g2', gp', gq', u1, u2, hr, hd, Yy, rdS, wrS, Yh, hd2']; exact ⟨rfl, rfl⟩)] | rw [ZW (by simp [lk, Za, Od.v, g1', w1, w2, w3, w4, w5, g2, g2', gp', gq', u1, u2, hr, hd, Yy, rdS, wrS, Yh, hd2']; exact rfl)] | rw [ZS]))
          (try simp only [Za, List.map_cons, List.map_nil, lk, reduceIte, Nat.reduceEqDiff, Nat.zero_ne_one, Nat.one_ne_zero])
          rw [c3]
          (repeat (first | rw [ZB] | rw [Ze (by simp [ZN, ZE, ZG, ZH, Zy, Zj, Zw, Zm, Zo, Zb, Zc, Zn, Zz, ZA, ZI, ↓Zl, Zx, Zk, ZF, Zq, Zp, ZZ, ZD, Yk, put, lk, Od.v, Za, Zf, Zu, Yn, Yc, Yd, Ye, Yo, Yl, DV.isU, DV.cells, hget, ZO, Yb, ZP, Zv, splice, DV.one, ZQ, mat, Ya, Ym, w3, w5, gq']; exact ⟨rfl, rfl⟩)] | rw [ZR (by simp [lk, Za, Od.v, w3, w5, gq']; exact rfl)] | rw [Zq] | rw [Zp] | rw [ZJ] | rw [ZU] | rw [ZK] | rw [ZT] | rw [ZM] | rw [ZL] | rw [ZC] | rw [Zs] | rw [Zt] | rw [Zi (by decide)] | rw [Zr] | rw [Zg] | rw [Zh] | rw [Zd (by decide)] | rw [ZX] | rw [ZV (by simp [ZN, ZE, ZG, ZH, Zy, Zj, Zw, Zm, Zo, Zb, Zc, Zn, Zz, ZA, ZI, ↓Zl, Zx, Zk, ZF, Zq, Zp, ZZ, ZD, Yk, put, lk, Od.v, Za, Zf, Zu, Yn, Yc, Yd, Ye, Yo, Yl, DV.isU, DV.cells, hget, ZO, Yb, ZP, Zv, splice, DV.one, ZQ, mat, Ya, Ym, w3, w5, gq']; exact ⟨rfl, rfl⟩)] | rw [ZW (by simp [lk, Za, Od.v, w3, w5, gq']; exact rfl)] | rw [ZS]))
          (try simp only [Za, List.map_cons, List.map_nil, lk, reduceIte, Nat.reduceEqDiff, Nat.zero_ne_one, Nat.one_ne_zero])
          rw [c4]
          (repeat (first | rw [ZB] | rw [Ze (by simp [ZN, ZE, ZG, ZH, Zy, Zj, Zw, Zm, Zo, Zb, Zc, Zn, Zz, ZA, ZI, ↓Zl, Zx, Zk, ZF, Zq, Zp, ZZ, ZD, Yk, put, lk, Od.v, Za, Zf, Zu, Yn, Yc, Yd, Ye, Yo, Yl, DV.isU, DV.cells, hget, ZO, Yb, ZP, Zv, splice, DV.one, ZQ, mat, Ya, Ym, v1]; exact ⟨rfl, rfl⟩)] | rw [ZR (by simp [lk, Za, Od.v, v1]; exact rfl)] | rw [Zq] | rw [Zp] | rw [ZJ] | rw [ZU] | rw [ZK] | rw [ZT] | rw [ZM] | rw [ZL] | rw [ZC] | rw [Zs] | rw [Zt] | rw [Zi (by decide)] | rw [Zr] | rw [Zg] | rw [Zh] | rw [Zd (by decide)] | rw [ZX] | rw [ZV (by simp [ZN, ZE, ZG, ZH, Zy, Zj, Zw, Zm, Zo, Zb, Zc, Zn, Zz, ZA, ZI, ↓Zl, Zx, Zk, ZF, Zq, Zp, ZZ, ZD, Yk, put, lk, Od.v, Za, Zf, Zu, Yn, Yc, Yd, Ye, Yo, Yl, DV.isU, DV.cells, hget, ZO, Yb, ZP, Zv, splice, DV.one, ZQ, mat, Ya, Ym, v1]; exact ⟨rfl, rfl⟩)] | rw [ZW (by simp [lk, Za, Od.v, v1]; exact rfl)] | rw [ZS]))
          simp [Za, lk]
        · have gq' : ¬ (2 : Int) ≤ q := by omega
          rw [if_neg gq] at hd4
          unfold lp136_0
          (repeat (first | rw [ZB] | rw [Ze (by simp [ZN, ZE, ZG, ZH, Zy, Zj, Zw, Zm, Zo, Zb, Zc, Zn, Zz, ZA, ZI, ↓Zl, Zx, Zk, ZF, Zq, Zp, ZZ, ZD, Yk, put, lk, Od.v, Za, Zf, Zu, Yn, Yc, Yd, Ye, Yo, Yl, DV.isU, DV.cells, hget, ZO, Yb, ZP, Zv, splice, DV.one, ZQ, mat, Ya, Ym, v0]; exact ⟨rfl, rfl⟩)] | rw [ZR (by simp [lk, Za, Od.v, v0]; exact rfl)] | rw [Zq] | rw [Zp] | rw [ZJ] | rw [ZU] | rw [ZK] | rw [ZT] | rw [ZM] | rw [ZL] | rw [ZC] | rw [Zs] | rw [Zt] | rw [Zi (by decide)] | rw [Zr] | rw [Zg] | rw [Zh] | rw [Zd (by decide)] | rw [ZX] | rw [ZV (by simp [ZN, ZE, ZG, ZH, Zy, Zj, Zw, Zm, Zo, Zb, Zc, Zn, Zz, ZA, ZI, ↓Zl, Zx, Zk, ZF, Zq, Zp, ZZ, ZD, Yk, put, lk, Od.v, Za, Zf, Zu, Yn, Yc, Yd, Ye, Yo, Yl, DV.isU, DV.cells, hget, ZO, Yb, ZP, Zv, splice, DV.one, ZQ, mat, Ya, Ym, v0]; exact ⟨rfl, rfl⟩)] | rw [ZW (by simp [lk, Za, Od.v, v0]; exact rfl)] | rw [ZS]))
          (try simp only [Za, List.map_cons, List.map_nil, lk, reduceIte, Nat.reduceEqDiff, Nat.zero_ne_one, Nat.one_ne_zero])
          rw [c1]
          (repeat (first | rw [ZB] | rw [Ze (by simp [ZN, ZE, ZG, ZH, Zy, Zj, Zw, Zm, Zo, Zb, Zc, Zn, Zz, ZA, ZI, ↓Zl, Zx, Zk, ZF, Zq, Zp, ZZ, ZD, Yk, put, lk, Od.v, Za, Zf, Zu, Yn, Yc, Yd, Ye, Yo, Yl, DV.isU, DV.cells, hget, ZO, Yb, ZP, Zv, splice, DV.one, ZQ, mat, Ya, Ym, g1', w1, w2, w3, w4, w5, g2, g2', gp', gq', u1, u2, hr, hd, Yy, rdS, wrS, Yh, hd2']; exact ⟨rfl, rfl⟩)] | rw [ZR (by simp [lk, Za, Od.v, g1', w1, w2, w3, w4, w5, g2, g2', gp', gq', u1, u2, hr, hd, Yy, rdS, wrS, Yh, hd2']; exact rfl)] | rw [Zq] | rw [Zp] | rw [ZJ] | rw [ZU] | rw [ZK] | rw [ZT] | rw [ZM] | rw [ZL] | rw [ZC] | rw [Zs] | rw [Zt] | rw [Zi (by decide)] | rw [Zr] | rw [Zg] | rw [Zh] | rw [Zd (by decide)] | rw [ZX] | rw [ZV (by simp [ZN, ZE, ZG, ZH, Zy, Zj, Zw, Zm, Zo, Zb, Zc, Zn, Zz, ZA, ZI, ↓Zl, Zx, Zk, ZF, Zq, Zp, ZZ, ZD, Yk, put, lk, Od.v, Za, Zf, Zu, Yn, Yc, Yd, Ye, Yo, Yl, DV.isU, DV.cells, hget, ZO, Yb, ZP, Zv, splice, DV.one, ZQ, mat, Ya, Ym, g1', w1, w2, w3, w4, w5, g2, g2', gp', gq', u1, u2, hr, hd, Yy, rdS, wrS, Yh, hd2']; exact ⟨rfl, rfl⟩)] | rw [ZW (by simp [lk, Za, Od.v, g1', w1, w2, w3, w4, w5, g2, g2', gp', gq', u1, u2, hr, hd, Yy, rdS, wrS, Yh, hd2']; exact rfl)] | rw [ZS]))
          (try simp only [Za, List.map_cons, List.map_nil, lk, reduceIte, Nat.reduceEqDiff, Nat.zero_ne_one, Nat.one_ne_zero])
          rw [c3]
          (repeat (first | rw [ZB] | rw [Ze (by simp [ZN, ZE, ZG, ZH, Zy, Zj, Zw, Zm, Zo, Zb, Zc, Zn, Zz, ZA, ZI, ↓Zl, Zx, Zk, ZF, Zq, Zp, ZZ, ZD, Yk, put, lk, Od.v, Za, Zf, Zu, Yn, Yc, Yd, Ye, Yo, Yl, DV.isU, DV.cells, hget, ZO, Yb, ZP, Zv, splice, DV.one, ZQ, mat, Ya, Ym, w3, w5, gq', v1]; exact ⟨rfl, rfl⟩)] | rw [ZR (by simp [lk, Za, Od.v, w3, w5, gq', v1]; exact rfl)] | rw [Zq] | rw [Zp] | rw [ZJ] | rw [ZU] | rw [ZK] | rw [ZT] | rw [ZM] | rw [ZL] | rw [ZC] | rw [Zs] | rw [Zt] | rw [Zi (by decide)] | rw [Zr] | rw [Zg] | rw [Zh] | rw [Zd (by decide)] | rw [ZX] | rw [ZV (by simp [ZN, ZE, ZG, ZH, Zy, Zj, Zw, Zm, Zo, Zb, Zc, Zn, Zz, ZA, ZI, ↓Zl, Zx, Zk, ZF, Zq, Zp, ZZ, ZD, Yk, put, lk, Od.v, Za, Zf, Zu, Yn, Yc, Yd, Ye, Yo, Yl, DV.isU, DV.cells, hget, ZO, Yb, ZP, Zv, splice, DV.one, ZQ, mat, Ya, Ym, w3, w5, gq', v1]; exact ⟨rfl, rfl⟩)] | rw [ZW (by simp [lk, Za, Od.v, w3, w5, gq', v1]; exact rfl)] | rw [ZS]))
          simp [Za, lk, hd4]
      · have gp' : ¬ (2 : Int) ≤ p := by omega
        rw [if_neg gp] at hd3
        by_cases gq : 2 ≤ q
        · have gq' : (2 : Int) ≤ q := by omega
          rw [if_pos gq] at hd4
          obtain ⟨x4, ex4, c4⟩ := up48 (H := H) (r := r) (g := g) (n := n) (a := a) (b := b) (i := i2) (s := S) hr hn hb n K d3 (by omega) z3 (by omega) (by omega)
          rw [← hd4, hd3] at c4
          unfold lp136_0
          (repeat (first | rw [ZB] | rw [Ze (by simp [ZN, ZE, ZG, ZH, Zy, Zj, Zw, Zm, Zo, Zb, Zc, Zn, Zz, ZA, ZI, ↓Zl, Zx, Zk, ZF, Zq, Zp, ZZ, ZD, Yk, put, lk, Od.v, Za, Zf, Zu, Yn, Yc, Yd, Ye, Yo, Yl, DV.isU, DV.cells, hget, ZO, Yb, ZP, Zv, splice, DV.one, ZQ, mat, Ya, Ym, v0]; exact ⟨rfl, rfl⟩)] | rw [ZR (by simp [lk, Za, Od.v, v0]; exact rfl)] | rw [Zq] | rw [Zp] | rw [ZJ] | rw [ZU] | rw [ZK] | rw [ZT] | rw [ZM] | rw [ZL] | rw [ZC] | rw [Zs] | rw [Zt] | rw [Zi (by decide)] | rw [Zr] | rw [Zg] | rw [Zh] | rw [Zd (by decide)] | rw [ZX] | rw [ZV (by simp [ZN, ZE, ZG, ZH, Zy, Zj, Zw, Zm, Zo, Zb, Zc, Zn, Zz, ZA, ZI, ↓Zl, Zx, Zk, ZF, Zq, Zp, ZZ, ZD, Yk, put, lk, Od.v, Za, Zf, Zu, Yn, Yc, Yd, Ye, Yo, Yl, DV.isU, DV.cells, hget, ZO, Yb, ZP, Zv, splice, DV.one, ZQ, mat, Ya, Ym, v0]; exact ⟨rfl, rfl⟩)] | rw [ZW (by simp [lk, Za, Od.v, v0]; exact rfl)] | rw [ZS]))
          (try simp only [Za, List.map_cons, List.map_nil, lk, reduceIte, Nat.reduceEqDiff, Nat.zero_ne_one, Nat.one_ne_zero])
          rw [c1]
          (repeat (first | rw [ZB] | rw [Ze (by simp [ZN, ZE, ZG, ZH, Zy, Zj, Zw, Zm, Zo, Zb, Zc, Zn, Zz, ZA, ZI, ↓Zl, Zx, Zk, ZF, Zq, Zp, ZZ, ZD, Yk, put, lk, Od.v, Za, Zf, Zu, Yn, Yc, Yd, Ye, Yo, Yl, DV.isU, DV.cells, hget, ZO, Yb, ZP, Zv, splice, DV.one, ZQ, mat, Ya, Ym, g1', w1, w2, w3, w4, w5, g2, g2', gp', gq', u1, u2, hr, hd, Yy, rdS, wrS, Yh, hd2']; exact ⟨rfl, rfl⟩)] | rw [ZR (by simp [lk, Za, Od.v, g1', w1, w2, w3, w4, w5, g2, g2', gp', gq', u1, u2, hr, hd, Yy, rdS, wrS, Yh, hd2']; exact rfl)] | rw [Zq] | rw [Zp] | rw [ZJ] | rw [ZU] | rw [ZK] | rw [ZT] | rw [ZM] | rw [ZL] | rw [ZC] | rw [Zs] | rw [Zt] | rw [Zi (by decide)] | rw [Zr] | rw [Zg] | rw [Zh] | rw [Zd (by decide)] | rw [ZX] | rw [ZV (by simp [ZN, ZE, ZG, ZH, Zy, Zj, Zw, Zm, Zo, Zb, Zc, Zn, Zz, ZA, ZI, ↓Zl, Zx, Zk, ZF, Zq, Zp, ZZ, ZD, Yk, put, lk, Od.v, Za, Zf, Zu, Yn, Yc, Yd, Ye, Yo, Yl, DV.isU, DV.cells, hget, ZO, Yb, ZP, Zv, splice, DV.one, ZQ, mat, Ya, Ym, g1', w1, w2, w3, w4, w5, g2, g2', gp', gq', u1, u2, hr, hd, Yy, rdS, wrS, Yh, hd2']; exact ⟨rfl, rfl⟩)] | rw [ZW (by simp [lk, Za, Od.v, g1', w1, w2, w3, w4, w5, g2, g2', gp', gq', u1, u2, hr, hd, Yy, rdS, wrS, Yh, hd2']; exact rfl)] | rw [ZS]))
          (try simp only [Za, List.map_cons, List.map_nil, lk, reduceIte, Nat.reduceEqDiff, Nat.zero_ne_one, Nat.one_ne_zero])
          rw [c4]
          (repeat (first | rw [ZB] | rw [Ze (by simp [ZN, ZE, ZG, ZH, Zy, Zj, Zw, Zm, Zo, Zb, Zc, Zn, Zz, ZA, ZI, ↓Zl, Zx, Zk, ZF, Zq, Zp, ZZ, ZD, Yk, put, lk, Od.v, Za, Zf, Zu, Yn, Yc, Yd, Ye, Yo, Yl, DV.isU, DV.cells, hget, ZO, Yb, ZP, Zv, splice, DV.one, ZQ, mat, Ya, Ym, v1]; exact ⟨rfl, rfl⟩)] | rw [ZR (by simp [lk, Za, Od.v, v1]; exact rfl)] | rw [Zq] | rw [Zp] | rw [ZJ] | rw [ZU] | rw [ZK] | rw [ZT] | rw [ZM] | rw [ZL] | rw [ZC] | rw [Zs] | rw [Zt] | rw [Zi (by decide)] | rw [Zr] | rw [Zg] | rw [Zh] | rw [Zd (by decide)] | rw [ZX] | rw [ZV (by simp [ZN, ZE, ZG, ZH, Zy, Zj, Zw, Zm, Zo, Zb, Zc, Zn, Zz, ZA, ZI, ↓Zl, Zx, Zk, ZF, Zq, Zp, ZZ, ZD, Yk, put, lk, Od.v, Za, Zf, Zu, Yn, Yc, Yd, Ye, Yo, Yl, DV.isU, DV.cells, hget, ZO, Yb, ZP, Zv, splice, DV.one, ZQ, mat, Ya, Ym, v1]; exact ⟨rfl, rfl⟩)] | rw [ZW (by simp [lk, Za, Od.v, v1]; exact rfl)] | rw [ZS]))
          simp [Za, lk]
        · have gq' : ¬ (2 : Int) ≤ q := by omega
          rw [if_neg gq] at hd4
          unfold lp136_0
          (repeat (first | rw [ZB] | rw [Ze (by simp [ZN, ZE, ZG, ZH, Zy, Zj, Zw, Zm, Zo, Zb, Zc, Zn, Zz, ZA, ZI, ↓Zl, Zx, Zk, ZF, Zq, Zp, ZZ, ZD, Yk, put, lk, Od.v, Za, Zf, Zu, Yn, Yc, Yd, Ye, Yo, Yl, DV.isU, DV.cells, hget, ZO, Yb, ZP, Zv, splice, DV.one, ZQ, mat, Ya, Ym, v0]; exact ⟨rfl, rfl⟩)] | rw [ZR (by simp [lk, Za, Od.v, v0]; exact rfl)] | rw [Zq] | rw [Zp] | rw [ZJ] | rw [ZU] | rw [ZK] | rw [ZT] | rw [ZM] | rw [ZL] | rw [ZC] | rw [Zs] | rw [Zt] | rw [Zi (by decide)] | rw [Zr] | rw [Zg] | rw [Zh] | rw [Zd (by decide)] | rw [ZX] | rw [ZV (by simp [ZN, ZE, ZG, ZH, Zy, Zj, Zw, Zm, Zo, Zb, Zc, Zn, Zz, ZA, ZI, ↓Zl, Zx, Zk, ZF, Zq, Zp, ZZ, ZD, Yk, put, lk, Od.v, Za, Zf, Zu, Yn, Yc, Yd, Ye, Yo, Yl, DV.isU, DV.cells, hget, ZO, Yb, ZP, Zv, splice, DV.one, ZQ, mat, Ya, Ym, v0]; exact ⟨rfl, rfl⟩)] | rw [ZW (by simp [lk, Za, Od.v, v0]; exact rfl)] | rw [ZS]))
          (try simp only [Za, List.map_cons, List.map_nil, lk, reduceIte, Nat.reduceEqDiff, Nat.zero_ne_one, Nat.one_ne_zero])
          rw [c1]
          (repeat (first | rw [ZB] | rw [Ze (by simp [ZN, ZE, ZG, ZH, Zy, Zj, Zw, Zm, Zo, Zb, Zc, Zn, Zz, ZA, ZI, ↓Zl, Zx, Zk, ZF, Zq, Zp, ZZ, ZD, Yk, put, lk, Od.v, Za, Zf, Zu, Yn, Yc, Yd, Ye, Yo, Yl, DV.isU, DV.cells, hget, ZO, Yb, ZP, Zv, splice, DV.one, ZQ, mat, Ya, Ym, g1', w1, w2, w3, w4, w5, g2, g2', gp', gq', u1, u2, hr, hd, Yy, rdS, wrS, Yh, hd2', v1]; exact ⟨rfl, rfl⟩)] | rw [ZR (by simp [lk, Za, Od.v, g1', w1, w2, w3, w4, w5, g2, g2', gp', gq', u1, u2, hr, hd, Yy, rdS, wrS, Yh, hd2', v1]; exact rfl)] | rw [Zq] | rw [Zp] | rw [ZJ] | rw [ZU] | rw [ZK] | rw [ZT] | rw [ZM] | rw [ZL] | rw [ZC] | rw [Zs] | rw [Zt] | rw [Zi (by decide)] | rw [Zr] | rw [Zg] | rw [Zh] | rw [Zd (by decide)] | rw [ZX] | rw [ZV (by simp [ZN, ZE, ZG, ZH, Zy, Zj, Zw, Zm, Zo, Zb, Zc, Zn, Zz, ZA, ZI, ↓Zl, Zx, Zk, ZF, Zq, Zp, ZZ, ZD, Yk, put, lk, Od.v, Za, Zf, Zu, Yn, Yc, Yd, Ye, Yo, Yl, DV.isU, DV.cells, hget, ZO, Yb, ZP, Zv, splice, DV.one, ZQ, mat, Ya, Ym, g1', w1, w2, w3, w4, w5, g2, g2', gp', gq', u1, u2, hr, hd, Yy, rdS, wrS, Yh, hd2', v1]; exact ⟨rfl, rfl⟩)] | rw [ZW (by simp [lk, Za, Od.v, g1', w1, w2, w3, w4, w5, g2, g2', gp', gq', u1, u2, hr, hd, Yy, rdS, wrS, Yh, hd2', v1]; exact rfl)] | rw [ZS]))
          simp [Za, lk, hd4, hd3]
    rw [Yj, hs, Yu]
    exact h9
theorem run136 {H : ZY} {r g n a b : Nat} (hr : r < H.length) (hn : n ≤ 1000000) (hab : a < b) (hb : b ≤ n) (d : Array V) (hd : d.size = n) :
    E X 136 [rw_ r g n, .int .i64 a, .int .i64 b, .func 98 [] []] (hp H r g d) = some (.bool (Go.Sort.partialInsertionSort lt d a b).2, hp H r g (Go.Sort.partialInsertionSort lt d a b).1) ∧ (Go.Sort.partialInsertionSort lt d a b).1.size = n := by
  obtain ⟨i, hi⟩ : ∃ i, i = a + 1 := ⟨_, rfl⟩
  have w1 : IntKind.i64.wrap ((a : Int) + 1) = (i : Int) := (by rw [wrap64 _ (by omega) (by omega)]; omega)
  have hdef : Go.Sort.partialInsertionSort lt d a b = Go.Sort.partialIns lt a b 5 i d := by rw [hi]; rfl
  rw [hdef]
  obtain ⟨c, hz⟩ := loop136 (H := H) (r := r) (g := g) (n := n) (a := a) (b := b) hr hn hb hab 5 i d (by omega) (by omega) (by omega) hd
  refine ⟨?_, hz⟩
  rw [show (5 - ((5 : Nat) : Int)) = 0 from rfl] at c
  generalize Go.Sort.partialIns lt a b 5 i d = o at c ⊢
  obtain ⟨d1, f⟩ := o
  rw [Yt (X := X) _ b136 _ rfl rfl]; unfold b136
  (repeat (first | rw [ZB] | rw [Ze (by simp [ZN, ZE, ZG, ZH, Zy, Zj, Zw, Zm, Zo, Zb, Zc, Zn, Zz, ZA, ZI, ↓Zl, Zx, Zk, ZF, Zq, Zp, ZZ, ZD, Yk, put, lk, Od.v, Za, Zf, Zu, Yn, Yc, Yd, Ye, Yo, Yl, DV.isU, DV.cells, hget, ZO, Yb, ZP, Zv, splice, DV.one, ZQ, mat, Ya, Ym, w1]; exact ⟨rfl, rfl⟩)] | rw [ZR (by simp [lk, Za, Od.v, w1]; exact rfl)] | rw [Zq] | rw [Zp] | rw [ZJ] | rw [ZU] | rw [ZK] | rw [ZT] | rw [ZM] | rw [ZL] | rw [ZC] | rw [Zs] | rw [Zt] | rw [Zi (by decide)] | rw [Zr] | rw [Zg] | rw [Zh] | rw [Zd (by decide)] | rw [ZX] | rw [ZV (by simp [ZN, ZE, ZG, ZH, Zy, Zj, Zw, Zm, Zo, Zb, Zc, Zn, Zz, ZA, ZI, ↓Zl, Zx, Zk, ZF, Zq, Zp, ZZ, ZD, Yk, put, lk, Od.v, Za, Zf, Zu, Yn, Yc, Yd, Ye, Yo, Yl, DV.isU, DV.cells, hget, ZO, Yb, ZP, Zv, splice, DV.one, ZQ, mat, Ya, Ym, w1]; exact ⟨rfl, rfl⟩)] | rw [ZW (by simp [lk, Za, Od.v, w1]; exact rfl)] | rw [ZS]))
  (try simp only [Za, List.map_cons, List.map_nil, lk, reduceIte, Nat.reduceEqDiff, Nat.zero_ne_one, Nat.one_ne_zero])
  rcases c with c | ⟨cf, e', c⟩
  · rw [c]
    (repeat (first | rw [ZB] | rw [Ze (by simp [ZN, ZE, ZG, ZH, Zy, Zj, Zw, Zm, Zo, Zb, Zc, Zn, Zz, ZA, ZI, ↓Zl, Zx, Zk, ZF, Zq, Zp, ZZ, ZD, Yk, put, lk, Od.v, Za, Zf, Zu, Yn, Yc, Yd, Ye, Yo, Yl, DV.isU, DV.cells, hget, ZO, Yb, ZP, Zv, splice, DV.one, ZQ, mat, Ya, Ym]; exact ⟨rfl, rfl⟩)] | rw [ZR (by simp [lk, Za, Od.v]; exact rfl)] | rw [Zq] | rw [Zp] | rw [ZJ] | rw [ZU] | rw [ZK] | rw [ZT] | rw [ZM] | rw [ZL] | rw [ZC] | rw [Zs] | rw [Zt] | rw [Zi (by decide)] | rw [Zr] | rw [Zg] | rw [Zh] | rw [Zd (by decide)] | rw [ZX] | rw [ZV (by simp [ZN, ZE, ZG, ZH, Zy, Zj, Zw, Zm, Zo, Zb, Zc, Zn, Zz, ZA, ZI, ↓Zl, Zx, Zk, ZF, Zq, Zp, ZZ, ZD, Yk, put, lk, Od.v, Za, Zf, Zu, Yn, Yc, Yd, Ye, Yo, Yl, DV.isU, DV.cells, hget, ZO, Yb, ZP, Zv, splice, DV.one, ZQ, mat, Ya, Ym]; exact ⟨rfl, rfl⟩)] | rw [ZW (by simp [lk, Za, Od.v]; exact rfl)] | rw [ZS]))
    simp only [Yf, Yq, Za, List.map_cons, List.map_nil, lk, reduceIte, Nat.reduceEqDiff, Option.map_some]
    rw [fin_len1 (by rw [hp_len, hp_len]) rfl]
  · rw [c]
    (repeat (first | rw [ZB] | rw [Ze (by simp [ZN, ZE, ZG, ZH, Zy, Zj, Zw, Zm, Zo, Zb, Zc, Zn, Zz, ZA, ZI, ↓Zl, Zx, Zk, ZF, Zq, Zp, ZZ, ZD, Yk, put, lk, Od.v, Za, Zf, Zu, Yn, Yc, Yd, Ye, Yo, Yl, DV.isU, DV.cells, hget, ZO, Yb, ZP, Zv, splice, DV.one, ZQ, mat, Ya, Ym]; exact ⟨rfl, rfl⟩)] | rw [ZR (by simp [lk, Za, Od.v]; exact rfl)] | rw [Zq] | rw [Zp] | rw [ZJ] | rw [ZU] | rw [ZK] | rw [ZT] | rw [ZM] | rw [ZL] | rw [ZC] | rw [Zs] | rw [Zt] | rw [Zi (by decide)] | rw [Zr] | rw [Zg] | rw [Zh] | rw [Zd (by decide)] | rw [ZX] | rw [ZV (by simp [ZN, ZE, ZG, ZH, Zy, Zj, Zw, Zm, Zo, Zb, Zc, Zn, Zz, ZA, ZI, ↓Zl, Zx, Zk, ZF, Zq, Zp, ZZ, ZD, Yk, put, lk, Od.v, Za, Zf, Zu, Yn, Yc, Yd, Ye, Yo, Yl, DV.isU, DV.cells, hget, ZO, Yb, ZP, Zv, splice, DV.one, ZQ, mat, Ya, Ym]; exact ⟨rfl, rfl⟩)] | rw [ZW (by simp [lk, Za, Od.v]; exact rfl)] | rw [ZS]))
    simp only [Yf, Yq, Za, List.map_cons, List.map_nil, lk, reduceIte, Nat.reduceEqDiff, Option.map_some]
    rw [fin_len1 (by rw [hp_len, hp_len]) rfl]
    simp only at cf
    rw [cf]
end Go.Proofs.YtebjndbigoddnaaDoor
