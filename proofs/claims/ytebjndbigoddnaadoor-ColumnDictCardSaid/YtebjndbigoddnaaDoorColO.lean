/- ColumnDict, in plain Lean: the ideal run of the law. -/
import Derived.Test.YtebjndbigoddnaaDoorColN
namespace Go.Proofs.YtebjndbigoddnaaDoor
attribute [local go_sem] ZN ZE ZG ZH Zy Zj Zw Zm Zo Zb Zc Zn Zz ZA ZI Zx Zk ZF Zq Zp ZZ ZD Yk put lk Od.v Za Zf Zu Yn Yc Yd Ye Yo Yl DV.isU DV.cells hget ZO Yb ZP Zv splice ZQ mat Ya Ym one_bool one_int one_str one_nilp one_ref one_elem one_nils one_list one_row one_nilm one_map one_nilf one_func one_nili one_ifc one_agg one_tup one_undef one_fresh
attribute [local go_sem ↓] Zl
set_option linter.unusedVariables false
set_option linter.unusedSimpArgs false
set_option maxRecDepth 10000
theorem ord_asym {a b : V} (h : ord a b < 0) : ¬ ord b a < 0 := fun h' => ord_self a (ord_trans a b a h h')
theorem ord_eq (v : V) : ord v v = 0 := by
  have h : ltS v.s v.s = false := by unfold ltS; exact bl_irrefl _
  simp [ord, YA, cmpS, h, beq_bytes]
/-- The values that are not nothing, of those that rise. -/
def endV : List V → List V
  | [] => []
  | y :: t => if y.k = 0 then t else y :: t
theorem endV_up {ys : List V} (h : Up ys) : Up (endV ys) := by
  cases ys with
  | nil => exact h
  | cons y t =>
    rw [endV]
    split
    · exact (List.pairwise_cons.1 h).2
    · exact h
theorem endV_mem {ys : List V} {v : V} (h : v ∈ ys) (hk : v.k ≠ 0) : v ∈ endV ys := by
  cases ys with
  | nil => exact h
  | cons y t =>
    rw [endV]
    split
    · rename_i h0
      rcases List.mem_cons.1 h with rfl | h
      · exact absurd h0 hk
      · exact h
    · exact h
theorem up_first {us : List V} (h : Up us) {a v : V} (ha : us[0]? = some a) (hv : v ∈ us) : ¬ ord v a < 0 := by
  cases us with
  | nil => cases hv
  | cons y t =>
    simp only [List.getElem?_cons_zero, Option.some.injEq] at ha
    subst ha
    rcases List.mem_cons.1 hv with rfl | hv
    · exact ord_self _
    · exact ord_asym ((List.pairwise_cons.1 h).1 v hv)
theorem up_last {us : List V} (h : Up us) {z v : V} (hz : us[us.length - 1]? = some z) (hv : v ∈ us) : ¬ 0 < ord v z := by
  obtain ⟨j, hj, rfl⟩ := List.mem_iff_getElem.1 hv
  by_cases c : j = us.length - 1
  · subst c
    rw [List.getElem?_eq_getElem hj] at hz
    injection hz with hz
    rw [hz, ord_eq]; omega
  · have := up_at h (i := j) (j := us.length - 1) (by omega) (List.getElem?_eq_getElem hj) hz
    omega
theorem run27n {n : Nat} {D B : DV} {ys : List V} {il : List Nat} (hC : ColOk n D B ys il) (he : endV ys = []) (H : ZY) :
    E X 27 [colD n D B] H = some (.tup [.agg [.int .i64 0, .int .i64 0, .str ⟨#[]⟩, .bool false], .agg [.int .i64 0, .int .i64 0, .str ⟨#[]⟩, .bool false], .bool false], H) := by
  have e39 := fun g => run39 hC g
  have hd := hC.dict
  clear hC
  rcases hd with rfl | ⟨rfl, rfl⟩
  · cases ys with
    | nil =>
      simp only [List.map_nil] at e39 ⊢
      rw [Yt (X := X) _ b27 _ rfl rfl]; unfold b27; (repeat (first | rw [ZB] | rw [Ze (by simp [go_sem, e39, vw]; exact ⟨rfl, rfl⟩)] | rw [ZR (by simp [lk, Za, Od.v, e39, vw]; exact rfl)] | rw [Zq] | rw [Zp] | rw [ZJ] | rw [ZU] | rw [ZK] | rw [ZT] | rw [ZM] | rw [ZL] | rw [ZC] | rw [Zs] | rw [Zt] | rw [Zi (by decide)] | rw [Zr] | rw [Zg] | rw [Zh] | rw [Zd (by decide)] | rw [ZX] | rw [ZV (by simp [go_sem, e39, vw]; exact ⟨rfl, rfl⟩)] | rw [ZW (by simp [lk, Za, Od.v, e39, vw]; exact rfl)] | rw [ZS])); simp [Yf, Yg, Yq, go_sem, fin, fz0, fz1, fzT, fzL, nlt, e39, vw]
    | cons y t =>
      by_cases h0 : y.k = 0
      · have ht : t = [] := by simpa [endV, h0] using he
        subst ht
        obtain ⟨yk, yn, ys', yt⟩ := y
        simp only at h0
        subst h0
        simp only [List.map_nil, List.map_cons, V.d] at e39 ⊢
        rw [Yt (X := X) _ b27 _ rfl rfl]; unfold b27; (repeat (first | rw [ZB] | rw [Ze (by simp [go_sem, e39, vw, Yw, slcx, intAt, cutx]; exact ⟨rfl, rfl⟩)] | rw [ZR (by simp [lk, Za, Od.v, e39, vw, Yw, slcx, intAt, cutx]; exact rfl)] | rw [Zq] | rw [Zp] | rw [ZJ] | rw [ZU] | rw [ZK] | rw [ZT] | rw [ZM] | rw [ZL] | rw [ZC] | rw [Zs] | rw [Zt] | rw [Zi (by decide)] | rw [Zr] | rw [Zg] | rw [Zh] | rw [Zd (by decide)] | rw [ZX] | rw [ZV (by simp [go_sem, e39, vw, Yw, slcx, intAt, cutx]; exact ⟨rfl, rfl⟩)] | rw [ZW (by simp [lk, Za, Od.v, e39, vw, Yw, slcx, intAt, cutx]; exact rfl)] | rw [ZS])); simp [Yf, Yg, Yq, go_sem, fin, fz0, fz1, fzT, fzL, nlt, e39, vw, Yw, slcx, intAt, cutx]
      · simp [endV, h0] at he
  · rw [Yt (X := X) _ b27 _ rfl rfl]; unfold b27; (repeat (first | rw [ZB] | rw [Ze (by simp [go_sem, e39, vw]; exact ⟨rfl, rfl⟩)] | rw [ZR (by simp [lk, Za, Od.v, e39, vw]; exact rfl)] | rw [Zq] | rw [Zp] | rw [ZJ] | rw [ZU] | rw [ZK] | rw [ZT] | rw [ZM] | rw [ZL] | rw [ZC] | rw [Zs] | rw [Zt] | rw [Zi (by decide)] | rw [Zr] | rw [Zg] | rw [Zh] | rw [Zd (by decide)] | rw [ZX] | rw [ZV (by simp [go_sem, e39, vw]; exact ⟨rfl, rfl⟩)] | rw [ZW (by simp [lk, Za, Od.v, e39, vw]; exact rfl)] | rw [ZS])); simp [Yf, Yg, Yq, go_sem, fin, fz0, fz1, fzT, fzL, nlt, e39, vw]
theorem run27s {n : Nat} {D B : DV} {ys : List V} {il : List Nat} (hC : ColOk n D B ys il) {us : List V} {a z : V} (he : endV ys = us) (ha : us[0]? = some a) (hz : us[us.length - 1]? = some z) (H : ZY) :
    E X 27 [colD n D B] H = some (.tup [a.d, z.d, .bool true], H) := by
  have e39 := fun g => run39 hC g
  have hd := hC.dict
  have hyb := hC.yb
  clear hC
  have hu0 : 0 < us.length := (List.getElem?_eq_some_iff.1 ha).1
  obtain ⟨q, hq⟩ : ∃ q, q = us.length - 1 := ⟨_, rfl⟩
  rw [← hq] at hz
  obtain ⟨xs, hxs⟩ : ∃ xs, xs = us.map V.d := ⟨_, rfl⟩
  have hx0 : xs[0]? = some a.d := by rw [hxs, List.getElem?_map, ha]; rfl
  have hxq : xs[q]? = some z.d := by rw [hxs, List.getElem?_map, hz]; rfl
  have hxl : xs.length = us.length := by rw [hxs]; simp
  obtain ⟨m, hm⟩ : ∃ m, m = us.length := ⟨_, rfl⟩
  rw [← hm] at hxl hq hu0
  have hml : m ≤ 256 := by
    cases ys with
    | nil => rw [hm, ← he]; simp [endV]
    | cons y t =>
      rw [hm, ← he, endV]
      simp only [List.length_cons] at hyb
      split
      · omega
      · simpa using hyb
  have n1 : ¬ (m : Int) = 0 := by omega
  have n2 : ¬ m = 0 := by omega
  have n3 : (0 : Int) < (m : Int) := by omega
  have n4 : ((m : Int) == 0) = false := by simpa using n2
  have z1 : IntKind.i64.wrap ((m : Int) - 1) = (q : Int) := (by rw [wrap64 _ (by omega) (by omega)]; omega)
  have hqm : q < m := by omega
  have hne : ¬ xs = [] := by rintro rfl; simp at hxl; omega
  have hy0 : xs[0]'(by omega) = a.d := by rw [List.getElem?_eq_getElem (by omega)] at hx0; injection hx0
  have hyq : xs[q]'(by omega) = z.d := by rw [List.getElem?_eq_getElem (by omega)] at hxq; injection hxq
  have htk : List.take m xs = xs := List.take_of_length_le (by omega)
  obtain ⟨ak, an, as', at'⟩ := a
  obtain ⟨zk, zn, zs, zt⟩ := z
  rcases hd with rfl | ⟨rfl, rfl⟩
  · cases ys with
    | nil => subst he; simp [endV] at hm; omega
    | cons y t =>
      by_cases h0 : y.k = 0
      · have ht : t = us := by simpa [endV, h0] using he
        subst ht
        obtain ⟨yk, yn, ys', yt⟩ := y
        simp only at h0
        subst h0
        rw [List.map_cons, ← hxs] at e39 ⊢
        clear hxs he
        (try simp only [V.d] at *)
        rw [Yt (X := X) _ b27 _ rfl rfl]; unfold b27; (repeat (first | rw [ZB] | rw [Ze (by simp [go_sem, e39, vw, slcx, intAt, cutx, Yw, hx0, hxq, hy0, hyq, hxl, n1, n2, n3, n4, z1, hqm, hu0, hne, htk]; exact ⟨rfl, rfl⟩)] | rw [ZR (by simp [lk, Za, Od.v, e39, vw, slcx, intAt, cutx, Yw, hx0, hxq, hy0, hyq, hxl, n1, n2, n3, n4, z1, hqm, hu0, hne, htk]; exact rfl)] | rw [Zq] | rw [Zp] | rw [ZJ] | rw [ZU] | rw [ZK] | rw [ZT] | rw [ZM] | rw [ZL] | rw [ZC] | rw [Zs] | rw [Zt] | rw [Zi (by decide)] | rw [Zr] | rw [Zg] | rw [Zh] | rw [Zd (by decide)] | rw [ZX] | rw [ZV (by simp [go_sem, e39, vw, slcx, intAt, cutx, Yw, hx0, hxq, hy0, hyq, hxl, n1, n2, n3, n4, z1, hqm, hu0, hne, htk]; exact ⟨rfl, rfl⟩)] | rw [ZW (by simp [lk, Za, Od.v, e39, vw, slcx, intAt, cutx, Yw, hx0, hxq, hy0, hyq, hxl, n1, n2, n3, n4, z1, hqm, hu0, hne, htk]; exact rfl)] | rw [ZS])); simp [Yf, Yg, Yq, go_sem, fin, fz0, fz1, fzT, fzL, nlt, e39, vw, slcx, intAt, cutx, Yw, hx0, hxq, hy0, hyq, hxl, n1, n2, n3, n4, z1, hqm, hu0, hne, htk]
      · have ht : y :: t = us := by simpa [endV, h0] using he
        rw [ht, ← hxs] at e39 ⊢
        have hy : y = ⟨ak, an, as', at'⟩ := by
          have := ha
          rw [← ht] at this
          simpa using this
        have h0' : ¬ ak = 0 := by rw [hy] at h0; exact h0
        have h0'' : (ak == 0) = false := by simpa using h0'
        clear hxs he hy h0 ht ha hz
        (try simp only [V.d] at *)
        rw [Yt (X := X) _ b27 _ rfl rfl]; unfold b27; (repeat (first | rw [ZB] | rw [Ze (by simp [go_sem, e39, vw, slcx, intAt, cutx, Yw, hx0, hxq, hy0, hyq, hxl, n1, n2, n3, n4, z1, hqm, hu0, hne, h0', h0'']; exact ⟨rfl, rfl⟩)] | rw [ZR (by simp [lk, Za, Od.v, e39, vw, slcx, intAt, cutx, Yw, hx0, hxq, hy0, hyq, hxl, n1, n2, n3, n4, z1, hqm, hu0, hne, h0', h0'']; exact rfl)] | rw [Zq] | rw [Zp] | rw [ZJ] | rw [ZU] | rw [ZK] | rw [ZT] | rw [ZM] | rw [ZL] | rw [ZC] | rw [Zs] | rw [Zt] | rw [Zi (by decide)] | rw [Zr] | rw [Zg] | rw [Zh] | rw [Zd (by decide)] | rw [ZX] | rw [ZV (by simp [go_sem, e39, vw, slcx, intAt, cutx, Yw, hx0, hxq, hy0, hyq, hxl, n1, n2, n3, n4, z1, hqm, hu0, hne, h0', h0'']; exact ⟨rfl, rfl⟩)] | rw [ZW (by simp [lk, Za, Od.v, e39, vw, slcx, intAt, cutx, Yw, hx0, hxq, hy0, hyq, hxl, n1, n2, n3, n4, z1, hqm, hu0, hne, h0', h0'']; exact rfl)] | rw [ZS])); simp [Yf, Yg, Yq, go_sem, fin, fz0, fz1, fzT, fzL, nlt, e39, vw, slcx, intAt, cutx, Yw, hx0, hxq, hy0, hyq, hxl, n1, n2, n3, n4, z1, hqm, hu0, hne, h0', h0'']
  · subst he; simp [endV] at hm; omega
theorem loop6_1 {h : ZY} {A S B : DV} {n : Int} {ls ys : List V} {d : V} {i : Nat} (hA : vw h 4 A = some (ls.map V.d)) (hS : vw h 4 S = some (ys.map V.d)) (h0 : h[0]? = some (.box 53 [.int .i64 n, S, B])) (hd : ys[i]? = some d) (hb : ls.length ≤ 1000) :
    ∀ (k j : Nat) (t : Bool), ls.length - j ≤ k → j ≤ ls.length → ∃ ex, C X (.loop lp6_1) [(0, A), (5, .ref 0 0), (7, .int .i64 i), (8, .bool t), (9, .int .i64 j)] h = some (.exit 2, (0, A) :: (5, .ref 0 0) :: (7, .int .i64 i) :: (8, .bool (t || (ls.drop j).any fun v => v.eqb d)) :: ex, h) := by
  obtain ⟨hi, hdi⟩ := List.getElem?_eq_some_iff.1 hd
  intro k
  induction k with
  | zero =>
    intro j t hk hj
    obtain rfl : j = ls.length := by omega
    refine ⟨[(9, .int .i64 ls.length), (41, .bool false)], ?_⟩
    rw [Yj]
    unfold lp6_1
    (repeat (first | rw [ZB] | rw [Ze (by simp [go_sem, hA]; exact ⟨rfl, rfl⟩)] | rw [ZR (by simp [lk, Za, Od.v, hA]; exact rfl)] | rw [Zq] | rw [Zp] | rw [ZJ] | rw [ZU] | rw [ZK] | rw [ZT] | rw [ZM] | rw [ZL] | rw [ZC] | rw [Zs] | rw [Zt] | rw [Zi (by decide)] | rw [Zr] | rw [Zg] | rw [Zh] | rw [Zd (by decide)] | rw [ZX] | rw [ZV (by simp [go_sem, hA]; exact ⟨rfl, rfl⟩)] | rw [ZW (by simp [lk, Za, Od.v, hA]; exact rfl)] | rw [ZS]))
    rw [Yr]
    simp [Za, lk]
  | succ k ih =>
    intro j t hk hj
    by_cases c : j < ls.length
    · obtain ⟨J, hJ⟩ : ∃ J, J = j + 1 := ⟨_, rfl⟩
      have z1 : IntKind.i64.wrap ((j : Int) + 1) = (J : Int) := (by rw [wrap64 _ (by omega) (by omega)]; omega)
      obtain ⟨v, hv⟩ : ∃ v, v = ls[j] := ⟨_, rfl⟩
      have hvj : ls[j]? = some v := by rw [hv]; exact List.getElem?_eq_getElem c
      have hv' := hv.symm
      have hdr : ls.drop j = v :: ls.drop J := by rw [List.drop_eq_getElem_cons c, hv', hJ]
      rw [hdr, List.any_cons, ← Bool.or_assoc]
      have hIH := ih J (t || v.eqb d) (by omega) (by omega)
      have hs : C X lp6_1 [(0, A), (5, .ref 0 0), (7, .int .i64 i), (8, .bool t), (9, .int .i64 j)] h = some (.norm, [(0, A), (5, .ref 0 0), (7, .int .i64 i), (8, .bool (t || v.eqb d)), (9, .int .i64 J)], h) := by
        clear ih hIH hv hdr
        obtain ⟨vk, vn, vs', vt⟩ := v
        obtain ⟨dk, dn, ds, dt⟩ := d
        (try simp only [V.d] at *)
        unfold lp6_1
        cases t
        · (repeat (first | rw [ZB] | rw [Ze (by simp [go_sem, c, z1, hA, hS, h0, hv', hvj, hd, hdi, hi, Yw]; exact ⟨rfl, rfl⟩)] | rw [ZR (by simp [lk, Za, Od.v, c, z1, hA, hS, h0, hv', hvj, hd, hdi, hi, Yw]; exact rfl)] | rw [Zq] | rw [Zp] | rw [ZJ] | rw [ZU] | rw [ZK] | rw [ZT] | rw [ZM] | rw [ZL] | rw [ZC] | rw [Zs] | rw [Zt] | rw [Zi (by decide)] | rw [Zr] | rw [Zg] | rw [Zh] | rw [Zd (by decide)] | rw [ZX] | rw [ZV (by simp [go_sem, c, z1, hA, hS, h0, hv', hvj, hd, hdi, hi, Yw]; exact ⟨rfl, rfl⟩)] | rw [ZW (by simp [lk, Za, Od.v, c, z1, hA, hS, h0, hv', hvj, hd, hdi, hi, Yw]; exact rfl)] | rw [ZS]))
          simp [Za, lk, V.eqb]
        · (repeat (first | rw [ZB] | rw [Ze (by simp [go_sem, c, z1, hA, hS, h0, hv', hvj, hd, hdi, hi, Yw]; exact ⟨rfl, rfl⟩)] | rw [ZR (by simp [lk, Za, Od.v, c, z1, hA, hS, h0, hv', hvj, hd, hdi, hi, Yw]; exact rfl)] | rw [Zq] | rw [Zp] | rw [ZJ] | rw [ZU] | rw [ZK] | rw [ZT] | rw [ZM] | rw [ZL] | rw [ZC] | rw [Zs] | rw [Zt] | rw [Zi (by decide)] | rw [Zr] | rw [Zg] | rw [Zh] | rw [Zd (by decide)] | rw [ZX] | rw [ZV (by simp [go_sem, c, z1, hA, hS, h0, hv', hvj, hd, hdi, hi, Yw]; exact ⟨rfl, rfl⟩)] | rw [ZW (by simp [lk, Za, Od.v, c, z1, hA, hS, h0, hv', hvj, hd, hdi, hi, Yw]; exact rfl)] | rw [ZS]))
          simp [Za, lk, V.eqb]
      rw [Yj, hs, Yu]
      exact hIH
    · exact ih j t (by omega) hj
theorem loop6 {h : ZY} {A S B : DV} {n : Int} {ls ys : List V} (hA : vw h 4 A = some (ls.map V.d)) (hS : vw h 4 S = some (ys.map V.d)) (h0 : h[0]? = some (.box 53 [.int .i64 n, S, B])) (hb : ls.length ≤ 1000) (hyb : ys.length ≤ 1000) (hU : Up ys) (hm : ∀ x ∈ ys, x ∈ ls) (hsm : ∀ x ∈ ls, Sm x) :
    ∀ (k i : Nat), ys.length - i ≤ k → i ≤ ys.length → ∃ ex, C X (.loop lp6_0) [(0, A), (5, .ref 0 0), (7, .int .i64 i)] h = some (.exit 0, (0, A) :: (5, .ref 0 0) :: ex, h) := by
  intro k
  induction k with
  | zero =>
    intro i hk hi
    obtain rfl : i = ys.length := by omega
    refine ⟨[(7, .int .i64 ys.length), (35, .bool false)], ?_⟩
    rw [Yj]
    unfold lp6_0
    (repeat (first | rw [ZB] | rw [Ze (by simp [go_sem, hS, h0, Yw]; exact ⟨rfl, rfl⟩)] | rw [ZR (by simp [lk, Za, Od.v, hS, h0, Yw]; exact rfl)] | rw [Zq] | rw [Zp] | rw [ZJ] | rw [ZU] | rw [ZK] | rw [ZT] | rw [ZM] | rw [ZL] | rw [ZC] | rw [Zs] | rw [Zt] | rw [Zi (by decide)] | rw [Zr] | rw [Zg] | rw [Zh] | rw [Zd (by decide)] | rw [ZX] | rw [ZV (by simp [go_sem, hS, h0, Yw]; exact ⟨rfl, rfl⟩)] | rw [ZW (by simp [lk, Za, Od.v, hS, h0, Yw]; exact rfl)] | rw [ZS]))
    rw [Yr]
    simp [Za, lk]
  | succ k ih =>
    intro i hk hi
    by_cases c : i < ys.length
    · obtain ⟨I, hI⟩ : ∃ I, I = i + 1 := ⟨_, rfl⟩
      have z1 : IntKind.i64.wrap ((i : Int) + 1) = (I : Int) := (by rw [wrap64 _ (by omega) (by omega)]; omega)
      obtain ⟨d, hd⟩ : ∃ d, d = ys[i] := ⟨_, rfl⟩
      have hdi : ys[i]? = some d := by rw [hd]; exact List.getElem?_eq_getElem c
      have hd' := hd.symm
      obtain ⟨ex, hc⟩ := loop6_1 hA hS h0 hdi hb ls.length 0 false (by omega) (by omega)
      have hany : (ls.drop 0).any (fun v => v.eqb d) = true := by
        rw [List.drop_zero, List.any_eq_true]
        refine ⟨d, hm d (by rw [hd]; exact List.getElem_mem c), ?_⟩
        exact (V.eqb_iff d d).2 rfl
      rw [hany, show ((0 : Nat) : Int) = 0 from rfl] at hc
      have hIH := ih I (by omega) (by omega)
      have hs : C X lp6_0 [(0, A), (5, .ref 0 0), (7, .int .i64 i)] h = some (.norm, [(0, A), (5, .ref 0 0), (7, .int .i64 I)], h) := by
        by_cases i0 : i = 0
        · subst i0
          clear ih hIH hd
          obtain ⟨dk, dn, ds, dt⟩ := d
          (try simp only [V.d] at *)
          rw [show ((0 : Nat) : Int) = 0 from rfl] at z1 hc ⊢
          unfold lp6_0
          (repeat (first | rw [ZB] | rw [Ze (by simp [go_sem, c, hS, h0, hd', hdi, Yw]; exact ⟨rfl, rfl⟩)] | rw [ZR (by simp [lk, Za, Od.v, c, hS, h0, hd', hdi, Yw]; exact rfl)] | rw [Zq] | rw [Zp] | rw [ZJ] | rw [ZU] | rw [ZK] | rw [ZT] | rw [ZM] | rw [ZL] | rw [ZC] | rw [Zs] | rw [Zt] | rw [Zi (by decide)] | rw [Zr] | rw [Zg] | rw [Zh] | rw [Zd (by decide)] | rw [ZX] | rw [ZV (by simp [go_sem, c, hS, h0, hd', hdi, Yw]; exact ⟨rfl, rfl⟩)] | rw [ZW (by simp [lk, Za, Od.v, c, hS, h0, hd', hdi, Yw]; exact rfl)] | rw [ZS]))
          (try simp only [Za, List.map_cons, List.map_nil, lk, reduceIte, Nat.reduceEqDiff, Nat.zero_ne_one, Nat.one_ne_zero])
          rw [hc]
          have z0 : IntKind.i64.wrap 1 = (I : Int) := by rw [wrap64 _ (by omega) (by omega)]; omega
          (repeat (first | rw [ZB] | rw [Ze (by simp [go_sem, c, hS, h0, z0, z1, hd', hdi, Yw]; exact ⟨rfl, rfl⟩)] | rw [ZR (by simp [lk, Za, Od.v, c, hS, h0, z0, z1, hd', hdi, Yw]; exact rfl)] | rw [Zq] | rw [Zp] | rw [ZJ] | rw [ZU] | rw [ZK] | rw [ZT] | rw [ZM] | rw [ZL] | rw [ZC] | rw [Zs] | rw [Zt] | rw [Zi (by decide)] | rw [Zr] | rw [Zg] | rw [Zh] | rw [Zd (by decide)] | rw [ZX] | rw [ZV (by simp [go_sem, c, hS, h0, z0, z1, hd', hdi, Yw]; exact ⟨rfl, rfl⟩)] | rw [ZW (by simp [lk, Za, Od.v, c, hS, h0, z0, z1, hd', hdi, Yw]; exact rfl)] | rw [ZS]))
          simp [Za, lk]
        · obtain ⟨p, hp⟩ : ∃ p, p = i - 1 := ⟨_, rfl⟩
          have hpl : p < ys.length := by omega
          obtain ⟨u, hu⟩ : ∃ u, u = ys[p] := ⟨_, rfl⟩
          have hup : ys[p]? = some u := by rw [hu]; exact List.getElem?_eq_getElem hpl
          have hu' := hu.symm
          have ho := up_at hU (i := p) (j := i) (by omega) hup hdi
          have e26 := fun g => run26 u d (hsm u (hm u (by rw [hu]; exact List.getElem_mem hpl))) (hsm d (hm d (by rw [hd]; exact List.getElem_mem c))) g
          obtain ⟨o, hoo⟩ : ∃ o, o = ord u d := ⟨_, rfl⟩
          rw [← hoo] at ho
          rw [← hoo] at e26
          have o1 : ¬ 0 ≤ o := by omega
          have g1 : (0 : Int) < (i : Int) := by omega
          have g2 : 0 < i := by omega
          have z2 : IntKind.i64.wrap ((i : Int) - 1) = (p : Int) := (by rw [wrap64 _ (by omega) (by omega)]; omega)
          clear ih hIH hd hu hoo hU hm hsm hp
          obtain ⟨dk, dn, ds, dt⟩ := d
          obtain ⟨uk, un, us, ut⟩ := u
          (try simp only [V.d] at *)
          unfold lp6_0
          (repeat (first | rw [ZB] | rw [Ze (by simp [go_sem, c, hS, h0, hd', hdi, Yw]; exact ⟨rfl, rfl⟩)] | rw [ZR (by simp [lk, Za, Od.v, c, hS, h0, hd', hdi, Yw]; exact rfl)] | rw [Zq] | rw [Zp] | rw [ZJ] | rw [ZU] | rw [ZK] | rw [ZT] | rw [ZM] | rw [ZL] | rw [ZC] | rw [Zs] | rw [Zt] | rw [Zi (by decide)] | rw [Zr] | rw [Zg] | rw [Zh] | rw [Zd (by decide)] | rw [ZX] | rw [ZV (by simp [go_sem, c, hS, h0, hd', hdi, Yw]; exact ⟨rfl, rfl⟩)] | rw [ZW (by simp [lk, Za, Od.v, c, hS, h0, hd', hdi, Yw]; exact rfl)] | rw [ZS]))
          (try simp only [Za, List.map_cons, List.map_nil, lk, reduceIte, Nat.reduceEqDiff, Nat.zero_ne_one, Nat.one_ne_zero])
          rw [hc]
          (repeat (first | rw [ZB] | rw [Ze (by simp [go_sem, c, hS, h0, z1, z2, hd', hdi, hup, hu', hpl, e26, o1, ho, g1, g2, Yw]; exact ⟨rfl, rfl⟩)] | rw [ZR (by simp [lk, Za, Od.v, c, hS, h0, z1, z2, hd', hdi, hup, hu', hpl, e26, o1, ho, g1, g2, Yw]; exact rfl)] | rw [Zq] | rw [Zp] | rw [ZJ] | rw [ZU] | rw [ZK] | rw [ZT] | rw [ZM] | rw [ZL] | rw [ZC] | rw [Zs] | rw [Zt] | rw [Zi (by decide)] | rw [Zr] | rw [Zg] | rw [Zh] | rw [Zd (by decide)] | rw [ZX] | rw [ZV (by simp [go_sem, c, hS, h0, z1, z2, hd', hdi, hup, hu', hpl, e26, o1, ho, g1, g2, Yw]; exact ⟨rfl, rfl⟩)] | rw [ZW (by simp [lk, Za, Od.v, c, hS, h0, z1, z2, hd', hdi, hup, hu', hpl, e26, o1, ho, g1, g2, Yw]; exact rfl)] | rw [ZS]))
          simp [Za, lk]
      rw [Yj, hs, Yu]
      exact hIH
    · exact ih i (by omega) hi
theorem loop6_2 {h : ZY} {A : DV} {ls : List V} {a z : V} {t : Bool} (hA : vw h 4 A = some (ls.map V.d)) (h1 : h[1]? = some (.box 23 [.int .i64 a.k, .int .i64 a.n, .str a.s, .bool a.t])) (h2 : h[2]? = some (.box 23 [.int .i64 z.k, .int .i64 z.n, .str z.s, .bool z.t])) (hb : ls.length ≤ 1000) (hsm : ∀ x ∈ ls, Sm x) (ha : Sm a) (hz : Sm z) (hk : ∀ x ∈ ls, x.k ≠ 0 → t = true ∧ ¬ ord x a < 0 ∧ ¬ 0 < ord x z) :
    ∀ (k i : Nat), ls.length - i ≤ k → i ≤ ls.length → ∃ ex, C X (.loop lp6_2) [(0, A), (5, .ref 0 0), (10, .ref 1 0), (11, .ref 2 0), (12, .bool t), (13, .int .i64 i)] h = some (.exit 4, (0, A) :: (5, .ref 0 0) :: ex, h) := by
  intro k
  induction k with
  | zero =>
    intro i hk hi
    obtain rfl : i = ls.length := by omega
    refine ⟨[(10, .ref 1 0), (11, .ref 2 0), (12, .bool t), (13, .int .i64 ls.length), (87, .bool false)], ?_⟩
    rw [Yj]
    unfold lp6_2
    (repeat (first | rw [ZB] | rw [Ze (by simp [go_sem, hA]; exact ⟨rfl, rfl⟩)] | rw [ZR (by simp [lk, Za, Od.v, hA]; exact rfl)] | rw [Zq] | rw [Zp] | rw [ZJ] | rw [ZU] | rw [ZK] | rw [ZT] | rw [ZM] | rw [ZL] | rw [ZC] | rw [Zs] | rw [Zt] | rw [Zi (by decide)] | rw [Zr] | rw [Zg] | rw [Zh] | rw [Zd (by decide)] | rw [ZX] | rw [ZV (by simp [go_sem, hA]; exact ⟨rfl, rfl⟩)] | rw [ZW (by simp [lk, Za, Od.v, hA]; exact rfl)] | rw [ZS]))
    rw [Yr]
    simp [Za, lk]
  | succ k ih =>
    intro i hkk hi
    by_cases c : i < ls.length
    · obtain ⟨I, hI⟩ : ∃ I, I = i + 1 := ⟨_, rfl⟩
      have z1 : IntKind.i64.wrap ((i : Int) + 1) = (I : Int) := (by rw [wrap64 _ (by omega) (by omega)]; omega)
      obtain ⟨v, hv⟩ : ∃ v, v = ls[i] := ⟨_, rfl⟩
      have hvi : ls[i]? = some v := by rw [hv]; exact List.getElem?_eq_getElem c
      have hv' := hv.symm
      have hvm : v ∈ ls := by rw [hv]; exact List.getElem_mem c
      have e1 := fun g => run26 v a (hsm v hvm) ha g
      have e2 := fun g => run26 v z (hsm v hvm) hz g
      have hkv := hk v hvm
      have hIH := ih I (by omega) (by omega)
      have hs : C X lp6_2 [(0, A), (5, .ref 0 0), (10, .ref 1 0), (11, .ref 2 0), (12, .bool t), (13, .int .i64 i)] h = some (.norm, [(0, A), (5, .ref 0 0), (10, .ref 1 0), (11, .ref 2 0), (12, .bool t), (13, .int .i64 I)], h) := by
        clear ih hIH hv hk hsm ha hz
        obtain ⟨o1, ho1⟩ : ∃ o, o = ord v a := ⟨_, rfl⟩
        obtain ⟨o2, ho2⟩ : ∃ o, o = ord v z := ⟨_, rfl⟩
        rw [← ho1, ← ho2] at hkv
        rw [← ho1] at e1
        rw [← ho2] at e2
        by_cases v0 : v.k = 0
        · clear hkv e1 e2 ho1 ho2
          obtain ⟨vk, vn, vs', vt⟩ := v
          (try simp only [V.d] at *)
          subst v0
          unfold lp6_2
          (repeat (first | rw [ZB] | rw [Ze (by simp [go_sem, c, z1, hA, hv', hvi, Yw]; exact ⟨rfl, rfl⟩)] | rw [ZR (by simp [lk, Za, Od.v, c, z1, hA, hv', hvi, Yw]; exact rfl)] | rw [Zq] | rw [Zp] | rw [ZJ] | rw [ZU] | rw [ZK] | rw [ZT] | rw [ZM] | rw [ZL] | rw [ZC] | rw [Zs] | rw [Zt] | rw [Zi (by decide)] | rw [Zr] | rw [Zg] | rw [Zh] | rw [Zd (by decide)] | rw [ZX] | rw [ZV (by simp [go_sem, c, z1, hA, hv', hvi, Yw]; exact ⟨rfl, rfl⟩)] | rw [ZW (by simp [lk, Za, Od.v, c, z1, hA, hv', hvi, Yw]; exact rfl)] | rw [ZS]))
          simp [Za, lk]
        · obtain ⟨rfl, p1, p2⟩ := hkv v0
          clear hkv ho1 ho2
          obtain ⟨vk, vn, vs', vt⟩ := v
          obtain ⟨ak, an, as', at'⟩ := a
          obtain ⟨zk, zn, zs, zt⟩ := z
          (try simp only [V.d] at *)
          have v1 : (vk == 0) = false := by simpa using v0
          have v2 : (vk != 0) = true := by simpa using v0
          unfold lp6_2
          (repeat (first | rw [ZB] | rw [Ze (by simp [go_sem, c, z1, hA, hv', hvi, h1, h2, e1, e2, p1, p2, v0, v1, v2, Yw]; exact ⟨rfl, rfl⟩)] | rw [ZR (by simp [lk, Za, Od.v, c, z1, hA, hv', hvi, h1, h2, e1, e2, p1, p2, v0, v1, v2, Yw]; exact rfl)] | rw [Zq] | rw [Zp] | rw [ZJ] | rw [ZU] | rw [ZK] | rw [ZT] | rw [ZM] | rw [ZL] | rw [ZC] | rw [Zs] | rw [Zt] | rw [Zi (by decide)] | rw [Zr] | rw [Zg] | rw [Zh] | rw [Zd (by decide)] | rw [ZX] | rw [ZV (by simp [go_sem, c, z1, hA, hv', hvi, h1, h2, e1, e2, p1, p2, v0, v1, v2, Yw]; exact ⟨rfl, rfl⟩)] | rw [ZW (by simp [lk, Za, Od.v, c, z1, hA, hv', hvi, h1, h2, e1, e2, p1, p2, v0, v1, v2, Yw]; exact rfl)] | rw [ZS]))
          simp [Za, lk]
      rw [Yj, hs, Yu]
      exact hIH
    · exact ih i (by omega) hi
set_option maxHeartbeats 1000000 in
theorem run6 {A : DV} {ls : List V} (hA : ∀ g, vw g 4 A = some (ls.map V.d)) (hsm : ∀ x ∈ ls, Sm x) : E X 6 [A] [] = some (.bool true, []) := by
  have e21 := run21 []
  have e22 := run22 (h := []) (hA [])
  cases hf : fewV ls
  · rw [hf] at e22
    rw [Yt (X := X) _ b6 _ rfl rfl]; unfold b6; (repeat (first | rw [ZB] | rw [Ze (by simp [go_sem, e21, e22]; exact ⟨rfl, rfl⟩)] | rw [ZR (by simp [lk, Za, Od.v, e21, e22]; exact rfl)] | rw [Zq] | rw [Zp] | rw [ZJ] | rw [ZU] | rw [ZK] | rw [ZT] | rw [ZM] | rw [ZL] | rw [ZC] | rw [Zs] | rw [Zt] | rw [Zi (by decide)] | rw [Zr] | rw [Zg] | rw [Zh] | rw [Zd (by decide)] | rw [ZX] | rw [ZV (by simp [go_sem, e21, e22]; exact ⟨rfl, rfl⟩)] | rw [ZW (by simp [lk, Za, Od.v, e21, e22]; exact rfl)] | rw [ZS])); simp [Yf, Yg, Yq, go_sem, fin, fz0, fz1, fzT, fzL, nlt, e21, e22]
  rw [hf] at e22
  have hb : ls.length ≤ 200 := by simp [fewV] at hf; exact hf.1
  rcases run23 (H := []) hA hb with ⟨S, ys, e23, hS, hU, hm, hyl, hmay⟩ | ⟨e23, v, hv, hmv⟩
  · have hC := colOk rfl hb hS hU hm hyl hmay
    obtain ⟨B, hB⟩ : ∃ B, B = DV.list 1 ((pack (ls.map (place ys)) (wC ys.length)).map bD) false := ⟨_, rfl⟩
    rw [← hB] at e23 hC
    have hBo : B.one = true := by rw [hB]; rfl
    have hAv := hA
    have hSv := hS.vw
    have hSo := hS.one
    obtain ⟨ex, hc⟩ := loop6 (h := [.box 53 [.int .i64 ls.length, S, B]]) (hA _) (hSv _) rfl (by omega) (by omega) hU (fun x hx => (hm x).1 hx) hsm ys.length 0 (by omega) (by omega)
    rw [show ((0 : Nat) : Int) = 0 from rfl] at hc
    have hle : (ys.length : Int) ≤ (ls.length : Int) := by omega
    cases hus : endV ys with
    | nil =>
      have e27 := fun g => run27n hC hus g
      obtain ⟨ex2, hc2⟩ := loop6_2 (h := [.box 53 [.int .i64 ls.length, S, B], .box 23 [.int .i64 V0.k, .int .i64 V0.n, .str V0.s, .bool V0.t], .box 23 [.int .i64 V0.k, .int .i64 V0.n, .str V0.s, .bool V0.t]]) (t := false) (hA _) rfl rfl (by omega) hsm (by show (0 : Nat) ≤ _; omega) (by show (0 : Nat) ≤ _; omega) (fun x hx hk => by
        have := endV_mem ((hm x).2 hx) hk
        rw [hus] at this; cases this) ls.length 0 (by omega) (by omega)
      rw [show ((0 : Nat) : Int) = 0 from rfl] at hc2
      simp only [V0] at hc2
      clear hC hS hU hm hmay hus hsm hB
      rw [Yt (X := X) _ b6 _ rfl rfl]; unfold b6
      (repeat (first | rw [ZB] | rw [Ze (by simp [go_sem, e21, e22, e23, hSo, hBo]; exact ⟨rfl, rfl⟩)] | rw [ZR (by simp [lk, Za, Od.v, e21, e22, e23, hSo, hBo]; exact rfl)] | rw [Zq] | rw [Zp] | rw [ZJ] | rw [ZU] | rw [ZK] | rw [ZT] | rw [ZM] | rw [ZL] | rw [ZC] | rw [Zs] | rw [Zt] | rw [Zi (by decide)] | rw [Zr] | rw [Zg] | rw [Zh] | rw [Zd (by decide)] | rw [ZX] | rw [ZV (by simp [go_sem, e21, e22, e23, hSo, hBo]; exact ⟨rfl, rfl⟩)] | rw [ZW (by simp [lk, Za, Od.v, e21, e22, e23, hSo, hBo]; exact rfl)] | rw [ZS]))
      (try simp only [Za, List.map_cons, List.map_nil, lk, reduceIte, Nat.reduceEqDiff, Nat.zero_ne_one, Nat.one_ne_zero])
      rw [hc]
      (repeat (first | rw [ZB] | rw [Ze (by simp [go_sem, e27, hSo, hBo]; exact ⟨rfl, rfl⟩)] | rw [ZR (by simp [lk, Za, Od.v, e27, hSo, hBo]; exact rfl)] | rw [Zq] | rw [Zp] | rw [ZJ] | rw [ZU] | rw [ZK] | rw [ZT] | rw [ZM] | rw [ZL] | rw [ZC] | rw [Zs] | rw [Zt] | rw [Zi (by decide)] | rw [Zr] | rw [Zg] | rw [Zh] | rw [Zd (by decide)] | rw [ZX] | rw [ZV (by simp [go_sem, e27, hSo, hBo]; exact ⟨rfl, rfl⟩)] | rw [ZW (by simp [lk, Za, Od.v, e27, hSo, hBo]; exact rfl)] | rw [ZS]))
      (try simp only [Za, List.map_cons, List.map_nil, lk, reduceIte, Nat.reduceEqDiff, Nat.zero_ne_one, Nat.one_ne_zero])
      rw [hc2]
      (repeat (first | rw [ZB] | rw [Ze (by simp [go_sem, hAv, hSv, hle]; exact ⟨rfl, rfl⟩)] | rw [ZR (by simp [lk, Za, Od.v, hAv, hSv, hle]; exact rfl)] | rw [Zq] | rw [Zp] | rw [ZJ] | rw [ZU] | rw [ZK] | rw [ZT] | rw [ZM] | rw [ZL] | rw [ZC] | rw [Zs] | rw [Zt] | rw [Zi (by decide)] | rw [Zr] | rw [Zg] | rw [Zh] | rw [Zd (by decide)] | rw [ZX] | rw [ZV (by simp [go_sem, hAv, hSv, hle]; exact ⟨rfl, rfl⟩)] | rw [ZW (by simp [lk, Za, Od.v, hAv, hSv, hle]; exact rfl)] | rw [ZS]))
      simp [Yf, Yg, Yq, go_sem, fin, fz0, fz1, fzT, fzL, nlt, hle]
    | cons a t =>
      obtain ⟨z, hz⟩ : ∃ z, z = (a :: t)[(a :: t).length - 1]'(by simp) := ⟨_, rfl⟩
      have hz' : (a :: t)[(a :: t).length - 1]? = some z := by rw [hz]; exact List.getElem?_eq_getElem _
      have e27 := fun g => run27s hC hus (a := a) (z := z) rfl hz' g
      have hUu : Up (a :: t) := hus ▸ endV_up hU
      have hin : ∀ x ∈ a :: t, x ∈ ls := by
        intro x hx
        rw [← hus] at hx
        refine (hm x).1 ?_
        cases ys with
        | nil => exact hx
        | cons y s =>
          rw [endV] at hx
          split at hx
          · exact List.mem_cons_of_mem _ hx
          · exact hx
      obtain ⟨ex2, hc2⟩ := loop6_2 (h := [.box 53 [.int .i64 ls.length, S, B], .box 23 [.int .i64 a.k, .int .i64 a.n, .str a.s, .bool a.t], .box 23 [.int .i64 z.k, .int .i64 z.n, .str z.s, .bool z.t]]) (t := true) (hA _) rfl rfl (by omega) hsm (hsm a (hin a (by simp))) (hsm z (hin z (by rw [hz]; exact List.getElem_mem _))) (fun x hx hk => by
        have hx' := endV_mem ((hm x).2 hx) hk
        rw [hus] at hx'
        exact ⟨rfl, up_first hUu (a := a) rfl hx', up_last hUu hz' hx'⟩) ls.length 0 (by omega) (by omega)
      rw [show ((0 : Nat) : Int) = 0 from rfl] at hc2
      clear hC hS hU hm hmay hus hsm hB hz hz' hUu hin
      obtain ⟨ak, an, as', at'⟩ := a
      obtain ⟨zk, zn, zs, zt⟩ := z
      (try simp only [V.d] at *)
      rw [Yt (X := X) _ b6 _ rfl rfl]; unfold b6
      (repeat (first | rw [ZB] | rw [Ze (by simp [go_sem, e21, e22, e23, hSo, hBo]; exact ⟨rfl, rfl⟩)] | rw [ZR (by simp [lk, Za, Od.v, e21, e22, e23, hSo, hBo]; exact rfl)] | rw [Zq] | rw [Zp] | rw [ZJ] | rw [ZU] | rw [ZK] | rw [ZT] | rw [ZM] | rw [ZL] | rw [ZC] | rw [Zs] | rw [Zt] | rw [Zi (by decide)] | rw [Zr] | rw [Zg] | rw [Zh] | rw [Zd (by decide)] | rw [ZX] | rw [ZV (by simp [go_sem, e21, e22, e23, hSo, hBo]; exact ⟨rfl, rfl⟩)] | rw [ZW (by simp [lk, Za, Od.v, e21, e22, e23, hSo, hBo]; exact rfl)] | rw [ZS]))
      (try simp only [Za, List.map_cons, List.map_nil, lk, reduceIte, Nat.reduceEqDiff, Nat.zero_ne_one, Nat.one_ne_zero])
      rw [hc]
      (repeat (first | rw [ZB] | rw [Ze (by simp [go_sem, e27, hSo, hBo]; exact ⟨rfl, rfl⟩)] | rw [ZR (by simp [lk, Za, Od.v, e27, hSo, hBo]; exact rfl)] | rw [Zq] | rw [Zp] | rw [ZJ] | rw [ZU] | rw [ZK] | rw [ZT] | rw [ZM] | rw [ZL] | rw [ZC] | rw [Zs] | rw [Zt] | rw [Zi (by decide)] | rw [Zr] | rw [Zg] | rw [Zh] | rw [Zd (by decide)] | rw [ZX] | rw [ZV (by simp [go_sem, e27, hSo, hBo]; exact ⟨rfl, rfl⟩)] | rw [ZW (by simp [lk, Za, Od.v, e27, hSo, hBo]; exact rfl)] | rw [ZS]))
      (try simp only [Za, List.map_cons, List.map_nil, lk, reduceIte, Nat.reduceEqDiff, Nat.zero_ne_one, Nat.one_ne_zero])
      rw [hc2]
      (repeat (first | rw [ZB] | rw [Ze (by simp [go_sem, hAv, hSv, hle]; exact ⟨rfl, rfl⟩)] | rw [ZR (by simp [lk, Za, Od.v, hAv, hSv, hle]; exact rfl)] | rw [Zq] | rw [Zp] | rw [ZJ] | rw [ZU] | rw [ZK] | rw [ZT] | rw [ZM] | rw [ZL] | rw [ZC] | rw [Zs] | rw [Zt] | rw [Zi (by decide)] | rw [Zr] | rw [Zg] | rw [Zh] | rw [Zd (by decide)] | rw [ZX] | rw [ZV (by simp [go_sem, hAv, hSv, hle]; exact ⟨rfl, rfl⟩)] | rw [ZW (by simp [lk, Za, Od.v, hAv, hSv, hle]; exact rfl)] | rw [ZS]))
      simp [Yf, Yg, Yq, go_sem, fin, fz0, fz1, fzT, fzL, nlt, hle]
  · rw [Yt (X := X) _ b6 _ rfl rfl]; unfold b6; (repeat (first | rw [ZB] | rw [Ze (by simp [go_sem, e21, e22, e23]; exact ⟨rfl, rfl⟩)] | rw [ZR (by simp [lk, Za, Od.v, e21, e22, e23]; exact rfl)] | rw [Zq] | rw [Zp] | rw [ZJ] | rw [ZU] | rw [ZK] | rw [ZT] | rw [ZM] | rw [ZL] | rw [ZC] | rw [Zs] | rw [Zt] | rw [Zi (by decide)] | rw [Zr] | rw [Zg] | rw [Zh] | rw [Zd (by decide)] | rw [ZX] | rw [ZV (by simp [go_sem, e21, e22, e23]; exact ⟨rfl, rfl⟩)] | rw [ZW (by simp [lk, Za, Od.v, e21, e22, e23]; exact rfl)] | rw [ZS])); simp [Yf, Yg, Yq, go_sem, fin, fz0, fz1, fzT, fzL, nlt, e21, e22, e23]
end Go.Proofs.YtebjndbigoddnaaDoor
