/- ColumnParts, in plain Lean: the ideal run of the law. -/
import Derived.Test.YtebjndbigoddnaaDoorColN
import Derived.Test.YtebjndbigoddnaaDoorPopR
namespace Go.Proofs.YtebjndbigoddnaaDoor
attribute [local go_sem] ZN ZE ZG ZH Zy Zj Zw Zm Zo Zc Zd Zn Zz ZA ZI Zx Zk ZF Zq Zp ZZ ZD Yk put lk Od.v Za Zi Zu Yn Yc Yd Ye Yo Yl DV.isU DV.cells hget ZO Yb ZP Zv splice ZQ mat Ya Ym one_bool one_int one_str one_nilp one_ref one_elem one_nils one_list one_row one_nilm one_map one_nilf one_func one_nili one_ifc one_agg one_tup one_undef one_fresh
attribute [local go_sem ↓] Zl
set_option linter.unusedVariables false
set_option linter.unusedSimpArgs false
set_option maxRecDepth 10000
theorem filter_add {α : Type} {p q r : α → Bool} : ∀ l : List α, (∀ x ∈ l, r x = (p x || q x) ∧ (p x && q x) = false) → (l.filter p).length + (l.filter q).length = (l.filter r).length
  | [], _ => rfl
  | x :: l, h => by
    have ih := filter_add l (fun y hy => h y (List.mem_cons_of_mem _ hy))
    obtain ⟨h1, h2⟩ := h x List.mem_cons_self
    rw [List.filter_cons, List.filter_cons, List.filter_cons, h1]
    cases hp : p x <;> cases hq : q x <;> simp [hp, hq] at h2 ⊢ <;> omega
theorem filter_le {α : Type} {p q : α → Bool} : ∀ l : List α, (∀ x ∈ l, (p x || q x) = true) → l.length ≤ (l.filter p).length + (l.filter q).length
  | [], _ => by simp
  | x :: l, h => by
    have ih := filter_le l (fun y hy => h y (List.mem_cons_of_mem _ hy))
    have h1 := h x List.mem_cons_self
    rw [List.filter_cons, List.filter_cons]
    cases hp : p x <;> cases hq : q x <;> simp [hp, hq] at h1 ⊢ <;> omega
theorem bits_rows (hold : Nat → Bool) (il : List Nat) (n : Nat) : bitsOf (ofW (rowsN hold il n)) 0 = rowsN hold il n := by
  have hb : ∀ i, bit (ofW (rowsN hold il n)) i = (decide (i < n) && hold (il.getD i 0)) := by
    intro i
    rw [bit_of]
    simp only [rowsN, List.mem_filter, List.mem_range]
    by_cases h1 : i < n <;> cases h2 : hold (il.getD i 0) <;> simp [h1]
  rw [bitsOf_sup (n := n) (fun i hi => by rw [hb]; simp; omega)]
  exact List.filter_congr fun i hi => by rw [hb]; rw [List.mem_range] at hi; simp [hi]
theorem rows_lt {hold : Nat → Bool} {il : List Nat} {n x : Nat} (h : x ∈ rowsN hold il n) : x < n := by
  have := (List.mem_filter.1 h).1
  exact List.mem_range.1 this
theorem run13r {hold : Nat → Bool} {il : List Nat} {n : Nat} {W : DV} (hW : WL W (ofW (rowsN hold il n))) (hn : n ≤ 4096) (H : ZT) : E X 13 [.agg [W]] H = some (.int .i64 ((rowsN hold il n).length : Nat), H) := by
  have hl := ofW_len (l := rowsN hold il n) (fun x hx => by have := rows_lt hx; omega)
  have := run13 hW (ofW_WB _) (by omega) H
  rw [bits_rows] at this
  exact this
theorem run18r {hold : Nat → Bool} {il : List Nat} {n : Nat} {W : DV} (hW : WL W (ofW (rowsN hold il n))) (hn : n ≤ 4096) (H : ZT) : E X 18 [.agg [W], .int .i64 (-1)] H = some (listD (rowsN hold il n), H) := by
  have hl := ofW_len (l := rowsN hold il n) (fun x hx => by have := rows_lt hx; omega)
  have := run18 hW (ofW_WB _) hl H
  rw [bits_rows] at this
  exact this
theorem loop7_1 {A S B R : DV} {n : Nat} {ls ys : List V} {il r : List Nat} {i : Nat} {d : V} {kk mm : Int} (hC : ColOk n S B ys il) (hA : ∀ g, vw g 4 A = some (ls.map V.d)) (hn : ls.length = n) (hd : ys[i]? = some d) (hr : ∀ q ∈ r, q < n ∧ il[q]? = some i ∧ ls[q]? = some d) (hb : r.length ≤ 4096) :
    ∀ (k j : Nat) (h : ZT), r.length - j ≤ k → j ≤ r.length → h[0]? = some (.box 53 [.int .i64 n, S, B]) → vw h 1 R = some (r.map iD) → ∃ ex h', C X (.loop lp7_1) [(0, A), (1, .int .i64 kk), (7, .ref 0 0), (9, .int .i64 mm), (10, .int .i64 i), (12, R), (13, .int .i64 j)] h = some (.exit 2, (0, A) :: (1, .int .i64 kk) :: (7, .ref 0 0) :: (9, .int .i64 mm) :: (10, .int .i64 i) :: ex, h') ∧ h'[0]? = some (.box 53 [.int .i64 n, S, B]) := by
  obtain ⟨hi, hdi⟩ := List.getElem?_eq_some_iff.1 hd
  have hS := hC.dict.vw
  intro k
  induction k with
  | zero =>
    intro j h hk hj h0 hR
    obtain rfl : j = r.length := by omega
    refine ⟨[(12, R), (13, .int .i64 r.length), (54, .bool false)], h, ?_, h0⟩
    rw [Yj]
    unfold lp7_1
    (repeat (first | rw [ZB] | rw [Ze (by simp [go_sem, hR]; exact ⟨rfl, rfl⟩)] | rw [ZR (by simp [lk, Za, Od.v, hR]; exact rfl)] | rw [Zq] | rw [Zp] | rw [ZJ] | rw [ZV] | rw [ZK] | rw [ZU] | rw [ZM] | rw [ZL] | rw [ZC] | rw [Zs] | rw [Zt] | rw [Zh (by decide)] | rw [Zr] | rw [Zf] | rw [Zg] | rw [Zb (by decide)] | rw [ZY] | rw [ZW (by simp [go_sem, hR]; exact ⟨rfl, rfl⟩)] | rw [ZX (by simp [lk, Za, Od.v, hR]; exact rfl)] | rw [ZS]))
    rw [Yq]
    simp [Za, lk]
  | succ k ih =>
    intro j h hk hj h0 hR
    by_cases c : j < r.length
    · obtain ⟨J, hJ⟩ : ∃ J, J = j + 1 := ⟨_, rfl⟩
      have z1 : IntKind.i64.wrap ((j : Int) + 1) = (J : Int) := (by rw [wrap64 _ (by omega) (by omega)]; omega)
      obtain ⟨q, hq⟩ : ∃ q, q = r[j] := ⟨_, rfl⟩
      have hqj : r[j]? = some q := by rw [hq]; exact List.getElem?_eq_getElem c
      have hq' := hq.symm
      obtain ⟨q1, q2, q3⟩ := hr q (by rw [hq]; exact List.getElem_mem c)
      have e29 := fun g => run29 hC q2 hd g
      have q1' : q < ls.length := by omega
      have d1 : ¬ ls.length ≤ q := by omega
      have d2 : ¬ (ls.length : Int) ≤ (q : Int) := by omega
      have q4 : ls[q] = d := by rw [List.getElem?_eq_getElem q1'] at q3; injection q3
      obtain ⟨bx, hbx⟩ : ∃ bx, bx = HO.box 23 [.int .i64 d.k, .int .i64 d.n, .str d.s, .bool d.t] := ⟨_, rfl⟩
      have hIH := ih J (h ++ [bx]) (by omega) (by omega) (by rw [List.getElem?_append_left (List.getElem?_eq_some_iff.1 h0).1]; exact h0) (vw_grow hR)
      have h0x : ∀ b : HO, (h ++ [b])[0]? = some (.box 53 [.int .i64 n, S, B]) := fun b => by rw [List.getElem?_append_left (List.getElem?_eq_some_iff.1 h0).1]; exact h0
      have h0y : ∀ (b : HO) (hb : 0 < (h ++ [b]).length), (h ++ [b])[0]'hb = .box 53 [.int .i64 n, S, B] := fun b hb => by
        have := h0x b
        rw [List.getElem?_eq_getElem hb] at this; injection this
      have hRx : ∀ b : HO, vw (h ++ [b]) 1 R = some (r.map iD) := fun b => vw_grow hR
      have hs : C X lp7_1 [(0, A), (1, .int .i64 kk), (7, .ref 0 0), (9, .int .i64 mm), (10, .int .i64 i), (12, R), (13, .int .i64 j)] h = some (.norm, [(0, A), (1, .int .i64 kk), (7, .ref 0 0), (9, .int .i64 mm), (10, .int .i64 i), (12, R), (13, .int .i64 J)], h ++ [bx]) := by
        clear ih hIH hq hC hr q3 q2
        subst hbx
        obtain ⟨dk, dn, ds, dt⟩ := d
        simp only [V.d] at *
        unfold lp7_1
        (repeat (first | rw [ZB] | rw [Ze (by simp [go_sem, c, z1, hA, hS, h0, h0x, h0y, hR, hRx, hq', hqj, hd, hdi, hi, e29, q1', d1, d2, q4, Yy, Yx]; exact ⟨rfl, rfl⟩)] | rw [ZR (by simp [lk, Za, Od.v, c, z1, hA, hS, h0, h0x, h0y, hR, hRx, hq', hqj, hd, hdi, hi, e29, q1', d1, d2, q4, Yy, Yx]; exact rfl)] | rw [Zq] | rw [Zp] | rw [ZJ] | rw [ZV] | rw [ZK] | rw [ZU] | rw [ZM] | rw [ZL] | rw [ZC] | rw [Zs] | rw [Zt] | rw [Zh (by decide)] | rw [Zr] | rw [Zf] | rw [Zg] | rw [Zb (by decide)] | rw [ZY] | rw [ZW (by simp [go_sem, c, z1, hA, hS, h0, h0x, h0y, hR, hRx, hq', hqj, hd, hdi, hi, e29, q1', d1, d2, q4, Yy, Yx]; exact ⟨rfl, rfl⟩)] | rw [ZX (by simp [lk, Za, Od.v, c, z1, hA, hS, h0, h0x, h0y, hR, hRx, hq', hqj, hd, hdi, hi, e29, q1', d1, d2, q4, Yy, Yx]; exact rfl)] | rw [ZS]))
        simp [Za, lk]
      rw [Yj, hs, Yt]
      exact hIH
    · exact ih j h (by omega) hj h0 hR
def cntN (il : List Nat) (n i : Nat) : Nat := (rowsN (fun p => decide (p < i)) il n).length
theorem cntN_succ (il : List Nat) (n i : Nat) : cntN il n i + (rowsN (fun p => decide ((i : Int) ≤ (p : Int)) && decide ((p : Int) < ((i + 1 : Nat) : Int))) il n).length = cntN il n (i + 1) := by
  unfold cntN rowsN
  apply filter_add
  intro x _
  generalize il.getD x 0 = p
  by_cases h1 : p < i
  · have h2 : p < i + 1 := by omega
    have h3 : ¬ (i : Int) ≤ (p : Int) := by omega
    simp [h1, h2, h3]
  · by_cases h2 : p < i + 1
    · have h3 : (i : Int) ≤ (p : Int) := by omega
      have h4 : (p : Int) < ((i + 1 : Nat) : Int) := by omega
      simp only [h1, h2, h3, h4]; decide
    · have h4 : ¬ (p : Int) < ((i + 1 : Nat) : Int) := by omega
      simp only [h1, h2, h4]; simp
theorem loop7 {A S B : DV} {n : Nat} {ls ys : List V} {il : List Nat} {kk : Int} (hC : ColOk n S B ys il) (hA : ∀ g, vw g 4 A = some (ls.map V.d)) (hn : ls.length = n) (hil : ∀ q p : Nat, il[q]? = some p → ls[q]? = ys[p]?) :
    ∀ (k i : Nat) (h : ZT), ys.length - i ≤ k → i ≤ ys.length → h[0]? = some (.box 53 [.int .i64 n, S, B]) → ∃ ex h', C X (.loop lp7_0) [(0, A), (1, .int .i64 kk), (7, .ref 0 0), (9, .int .i64 (cntN il n i : Nat)), (10, .int .i64 i)] h = some (.exit 0, (0, A) :: (1, .int .i64 kk) :: (7, .ref 0 0) :: (9, .int .i64 (cntN il n ys.length : Nat)) :: ex, h') ∧ h'[0]? = some (.box 53 [.int .i64 n, S, B]) := by
  have hS := hC.dict.vw
  have hyb := hC.yb
  have hnb := hC.nb
  have hcl : ∀ i, cntN il n i ≤ n := fun i => rowsN_len _ _ _
  intro k
  induction k with
  | zero =>
    intro i h hk hi h0
    obtain rfl : i = ys.length := by omega
    refine ⟨[(10, .int .i64 ys.length), (37, .bool false)], h, ?_, h0⟩
    rw [Yj]
    unfold lp7_0
    (repeat (first | rw [ZB] | rw [Ze (by simp [go_sem, hS, h0, Yy]; exact ⟨rfl, rfl⟩)] | rw [ZR (by simp [lk, Za, Od.v, hS, h0, Yy]; exact rfl)] | rw [Zq] | rw [Zp] | rw [ZJ] | rw [ZV] | rw [ZK] | rw [ZU] | rw [ZM] | rw [ZL] | rw [ZC] | rw [Zs] | rw [Zt] | rw [Zh (by decide)] | rw [Zr] | rw [Zf] | rw [Zg] | rw [Zb (by decide)] | rw [ZY] | rw [ZW (by simp [go_sem, hS, h0, Yy]; exact ⟨rfl, rfl⟩)] | rw [ZX (by simp [lk, Za, Od.v, hS, h0, Yy]; exact rfl)] | rw [ZS]))
    rw [Yq]
    simp [Za, lk]
  | succ k ih =>
    intro i h hk hi h0
    by_cases c : i < ys.length
    · obtain ⟨I, hI⟩ : ∃ I, I = i + 1 := ⟨_, rfl⟩
      have z1 : IntKind.i64.wrap ((i : Int) + 1) = (I : Int) := (by rw [wrap64 _ (by omega) (by omega)]; omega)
      obtain ⟨d, hd⟩ : ∃ d, d = ys[i] := ⟨_, rfl⟩
      have hdi : ys[i]? = some d := by rw [hd]; exact List.getElem?_eq_getElem c
      have hcs := cntN_succ il n i
      rw [← hI] at hcs
      obtain ⟨r, hr⟩ : ∃ r, r = rowsN (fun p => decide ((i : Int) ≤ (p : Int)) && decide ((p : Int) < (I : Int))) il n := ⟨_, rfl⟩
      have hrm : ∀ q ∈ r, q < n ∧ il[q]? = some i ∧ ls[q]? = some d := by
        intro q hq
        rw [hr] at hq
        have h1 := rows_lt hq
        have h2 := (List.mem_filter.1 hq).2
        have hql : q < il.length := by rw [hC.len]; exact h1
        rw [List.getD_eq_getElem?_getD, List.getElem?_eq_getElem hql] at h2
        simp only [Option.getD_some, Bool.and_eq_true, decide_eq_true_eq] at h2
        have h3 : il[q] = i := by omega
        have h4 : il[q]? = some i := by rw [List.getElem?_eq_getElem hql, h3]
        exact ⟨h1, h4, by rw [hil q i h4, hdi]⟩
      obtain ⟨W, e28, hW⟩ := run28 (H := h) hC (i : Int) (I : Int)
      have e13 := fun g => run13r hW hC.nb g
      have e18 := fun g => run18r hW hC.nb g
      rw [← hr] at e13 e18 hcs
      have hone : W.one = true := by rcases hW with rfl | ⟨rfl, _⟩ <;> rfl
      have hrl : r.length ≤ n := by rw [hr]; exact rowsN_len _ _ _
      have hc1 := hcl i
      have hc2 := hcl I
      have z2 : IntKind.i64.wrap ((cntN il n i : Nat) + (r.length : Int)) = (cntN il n I : Nat) := (by rw [wrap64 _ (by omega) (by omega)]; omega)
      have h0y : ∀ (b : ZT) (hb : 0 < (h ++ b).length), (h ++ b)[0]'hb = .box 53 [.int .i64 n, S, B] := fun b hb => by
        have : (h ++ b)[0]? = some (.box 53 [.int .i64 n, S, B]) := by rw [List.getElem?_append_left (List.getElem?_eq_some_iff.1 h0).1]; exact h0
        rw [List.getElem?_eq_getElem hb] at this; injection this
      by_cases hre : r = []
      · have el : listD r = .nils := by simp [listD, hre]
        rw [el] at e18
        obtain ⟨ex, h2, hc, h20⟩ := loop7_1 (R := .nils) (kk := kk) (mm := (cntN il n I : Nat)) hC hA hn hdi hrm (by omega) r.length 0 (h ++ [HO.box 30 [W]]) (by omega) (by omega) (by rw [List.getElem?_append_left (List.getElem?_eq_some_iff.1 h0).1]; exact h0) (by rw [hre]; rfl)
        rw [show ((0 : Nat) : Int) = 0 from rfl] at hc
        have hIH := ih I h2 (by omega) (by omega) h20
        have hs : C X lp7_0 [(0, A), (1, .int .i64 kk), (7, .ref 0 0), (9, .int .i64 (cntN il n i : Nat)), (10, .int .i64 i)] h = some (.norm, [(0, A), (1, .int .i64 kk), (7, .ref 0 0), (9, .int .i64 (cntN il n I : Nat)), (10, .int .i64 I)], h2) := by
          clear ih hIH hd hcs hr hrm hW hC hil hcl
          generalize cntN il n I = cI at *
          generalize cntN il n i = ci at *
          unfold lp7_0
          (repeat (first | rw [ZB] | rw [Ze (by simp [go_sem, c, hS, h0, h0y, Yy, z1, z2, e28, e13, e18, hone]; exact ⟨rfl, rfl⟩)] | rw [ZR (by simp [lk, Za, Od.v, c, hS, h0, h0y, Yy, z1, z2, e28, e13, e18, hone]; exact rfl)] | rw [Zq] | rw [Zp] | rw [ZJ] | rw [ZV] | rw [ZK] | rw [ZU] | rw [ZM] | rw [ZL] | rw [ZC] | rw [Zs] | rw [Zt] | rw [Zh (by decide)] | rw [Zr] | rw [Zf] | rw [Zg] | rw [Zb (by decide)] | rw [ZY] | rw [ZW (by simp [go_sem, c, hS, h0, h0y, Yy, z1, z2, e28, e13, e18, hone]; exact ⟨rfl, rfl⟩)] | rw [ZX (by simp [lk, Za, Od.v, c, hS, h0, h0y, Yy, z1, z2, e28, e13, e18, hone]; exact rfl)] | rw [ZS]))
          (try simp only [Za, List.map_cons, List.map_nil, lk, reduceIte, Nat.reduceEqDiff, Nat.zero_ne_one, Nat.one_ne_zero])
          rw [hc]
          (repeat (first | rw [ZB] | rw [Ze (by simp [go_sem, z1, hone]; exact ⟨rfl, rfl⟩)] | rw [ZR (by simp [lk, Za, Od.v, z1, hone]; exact rfl)] | rw [Zq] | rw [Zp] | rw [ZJ] | rw [ZV] | rw [ZK] | rw [ZU] | rw [ZM] | rw [ZL] | rw [ZC] | rw [Zs] | rw [Zt] | rw [Zh (by decide)] | rw [Zr] | rw [Zf] | rw [Zg] | rw [Zb (by decide)] | rw [ZY] | rw [ZW (by simp [go_sem, z1, hone]; exact ⟨rfl, rfl⟩)] | rw [ZX (by simp [lk, Za, Od.v, z1, hone]; exact rfl)] | rw [ZS]))
          simp [Za, lk]
        rw [Yj, hs, Yt]
        exact hIH
      · have el : listD r = .fresh 3 1 (r.map iD) := by simp [listD, hre]
        rw [el] at e18
        obtain ⟨ex, h2, hc, h20⟩ := loop7_1 (R := .row (h.length + 1) 0 0 r.length false) (kk := kk) (mm := (cntN il n I : Nat)) hC hA hn hdi hrm (by omega) r.length 0 (h ++ [HO.box 30 [W], .row 3 1 0 (r.map iD)]) (by omega) (by omega) (by rw [List.getElem?_append_left (List.getElem?_eq_some_iff.1 h0).1]; exact h0) (by
          have q : (h ++ [HO.box 30 [W], .row 3 1 0 (r.map iD)])[h.length + 1]? = some (.row 3 1 0 (r.map iD)) := by simp [hget]
          exact row_vw q (by simp))
        rw [show ((0 : Nat) : Int) = 0 from rfl] at hc
        have hIH := ih I h2 (by omega) (by omega) h20
        have hs : C X lp7_0 [(0, A), (1, .int .i64 kk), (7, .ref 0 0), (9, .int .i64 (cntN il n i : Nat)), (10, .int .i64 i)] h = some (.norm, [(0, A), (1, .int .i64 kk), (7, .ref 0 0), (9, .int .i64 (cntN il n I : Nat)), (10, .int .i64 I)], h2) := by
          clear ih hIH hd hcs hr hrm hW hC hil hcl
          generalize cntN il n I = cI at *
          generalize cntN il n i = ci at *
          unfold lp7_0
          (repeat (first | rw [ZB] | rw [Ze (by simp [go_sem, c, hS, h0, h0y, Yy, z1, z2, e28, e13, e18, hone]; exact ⟨rfl, rfl⟩)] | rw [ZR (by simp [lk, Za, Od.v, c, hS, h0, h0y, Yy, z1, z2, e28, e13, e18, hone]; exact rfl)] | rw [Zq] | rw [Zp] | rw [ZJ] | rw [ZV] | rw [ZK] | rw [ZU] | rw [ZM] | rw [ZL] | rw [ZC] | rw [Zs] | rw [Zt] | rw [Zh (by decide)] | rw [Zr] | rw [Zf] | rw [Zg] | rw [Zb (by decide)] | rw [ZY] | rw [ZW (by simp [go_sem, c, hS, h0, h0y, Yy, z1, z2, e28, e13, e18, hone]; exact ⟨rfl, rfl⟩)] | rw [ZX (by simp [lk, Za, Od.v, c, hS, h0, h0y, Yy, z1, z2, e28, e13, e18, hone]; exact rfl)] | rw [ZS]))
          (try simp only [Za, List.map_cons, List.map_nil, lk, reduceIte, Nat.reduceEqDiff, Nat.zero_ne_one, Nat.one_ne_zero])
          rw [hc]
          (repeat (first | rw [ZB] | rw [Ze (by simp [go_sem, z1, hone]; exact ⟨rfl, rfl⟩)] | rw [ZR (by simp [lk, Za, Od.v, z1, hone]; exact rfl)] | rw [Zq] | rw [Zp] | rw [ZJ] | rw [ZV] | rw [ZK] | rw [ZU] | rw [ZM] | rw [ZL] | rw [ZC] | rw [Zs] | rw [Zt] | rw [Zh (by decide)] | rw [Zr] | rw [Zf] | rw [Zg] | rw [Zb (by decide)] | rw [ZY] | rw [ZW (by simp [go_sem, z1, hone]; exact ⟨rfl, rfl⟩)] | rw [ZX (by simp [lk, Za, Od.v, z1, hone]; exact rfl)] | rw [ZS]))
          simp [Za, lk]
        rw [Yj, hs, Yt]
        exact hIH
    · exact ih i h (by omega) hi h0
set_option maxHeartbeats 1000000 in
theorem run7 {A : DV} {ls : List V} (hA : ∀ g, vw g 4 A = some (ls.map V.d)) (k : Int) : E X 7 [A, .int .i64 k] [] = some (.bool true, []) := by
  have e21 := run21 []
  have e22 := run22 (h := []) (hA [])
  cases hf : fewV ls
  · rw [hf] at e22
    rw [Yv (X := X) _ b7 _ rfl rfl]; unfold b7; (repeat (first | rw [ZB] | rw [Ze (by simp [go_sem, e21, e22]; exact ⟨rfl, rfl⟩)] | rw [ZR (by simp [lk, Za, Od.v, e21, e22]; exact rfl)] | rw [Zq] | rw [Zp] | rw [ZJ] | rw [ZV] | rw [ZK] | rw [ZU] | rw [ZM] | rw [ZL] | rw [ZC] | rw [Zs] | rw [Zt] | rw [Zh (by decide)] | rw [Zr] | rw [Zf] | rw [Zg] | rw [Zb (by decide)] | rw [ZY] | rw [ZW (by simp [go_sem, e21, e22]; exact ⟨rfl, rfl⟩)] | rw [ZX (by simp [lk, Za, Od.v, e21, e22]; exact rfl)] | rw [ZS])); simp [Yf, Yg, Yr, go_sem, fin, fz0, fz1, fzT, fzL, nlt, e21, e22]
  rw [hf] at e22
  have hb : ls.length ≤ 200 := by simp [fewV] at hf; exact hf.1
  rcases run23 (H := []) hA hb with ⟨S, ys, e23, hS, hU, hm, hyl, hmay⟩ | ⟨e23, v, hv, hmv⟩
  · have hC := colOk rfl hb hS hU hm hyl hmay
    obtain ⟨B, hB⟩ : ∃ B, B = DV.list 1 ((pack (ls.map (place ys)) (wC ys.length)).map bD) false := ⟨_, rfl⟩
    rw [← hB] at e23 hC
    have hBo : B.one = true := by rw [hB]; rfl
    have hAv := hA
    have hSv := hS.vw
    have hSo := hS.one
    obtain ⟨il, hil⟩ : ∃ il, il = ls.map (place ys) := ⟨_, rfl⟩
    rw [← hil] at hC
    have hilp : ∀ q p : Nat, il[q]? = some p → ls[q]? = ys[p]? := by
      intro q p h
      rw [hil, List.getElem?_map] at h
      cases hq : ls[q]? with
      | none => rw [hq] at h; cases h
      | some x =>
        rw [hq] at h
        injection h with h
        subst h
        exact (up_at_place hU ((hm x).2 (List.mem_of_getElem? hq))).1.symm
    have h00 : cntN il ls.length 0 = 0 := by simp [cntN, rowsN]
    obtain ⟨ex, h2, hc, h20⟩ := loop7 (kk := k) hC hA rfl hilp ys.length 0 [.box 53 [.int .i64 ls.length, S, B]] (by omega) (by omega) rfl
    have hall : cntN il ls.length ys.length = ls.length := by
      have h1 : rowsN (fun p => decide (p < ys.length)) il ls.length = List.range ls.length := by
        unfold rowsN
        rw [List.filter_eq_self]
        intro j hj
        rw [List.mem_range] at hj
        have hjl : j < il.length := by rw [hC.len]; exact hj
        rw [List.getD_eq_getElem?_getD, List.getElem?_eq_getElem hjl]
        have := (hC.mem il[j]).1 (List.getElem_mem hjl)
        simpa using this
      unfold cntN
      rw [h1, List.length_range]
    rw [h00, hall, show ((0 : Nat) : Int) = 0 from rfl] at hc
    obtain ⟨W1, e28, hW1⟩ := run28 (H := h2) hC 0 k
    obtain ⟨W2, e28', hW2⟩ := run28 (H := h2) hC k (ys.length : Int)
    have e13 := run13r hW1 hC.nb h2
    have e13' := run13r hW2 hC.nb h2
    obtain ⟨c1, hc1⟩ : ∃ c, c = (rowsN (fun p => decide ((0 : Int) ≤ (p : Int)) && decide ((p : Int) < k)) il ls.length).length := ⟨_, rfl⟩
    obtain ⟨c2, hc2⟩ : ∃ c, c = (rowsN (fun p => decide (k ≤ (p : Int)) && decide ((p : Int) < (ys.length : Int))) il ls.length).length := ⟨_, rfl⟩
    have hle : ls.length ≤ c1 + c2 := by
      have := filter_le (p := fun j => (fun p => decide ((0 : Int) ≤ (p : Int)) && decide ((p : Int) < k)) (il.getD j 0)) (q := fun j => (fun p => decide (k ≤ (p : Int)) && decide ((p : Int) < (ys.length : Int))) (il.getD j 0)) (List.range ls.length) (by
        intro j hj
        rw [List.mem_range] at hj
        have hjl : j < il.length := by rw [hC.len]; exact hj
        have h1 := (hC.mem il[j]).1 (List.getElem_mem hjl)
        simp only [List.getD_eq_getElem?_getD, List.getElem?_eq_getElem hjl, Option.getD_some]
        by_cases h2 : (il[j] : Int) < k
        · simp [h2]
        · have h3 : k ≤ (il[j] : Int) := by omega
          simp [h3, h1])
      rw [List.length_range] at this
      rw [hc1, hc2]; exact this
    have hl1 : c1 ≤ ls.length := by rw [hc1]; exact rowsN_len _ _ _
    have hl2 : c2 ≤ ls.length := by rw [hc2]; exact rowsN_len _ _ _
    rw [← hc1] at e13
    rw [← hc2] at e13'
    obtain ⟨cs, hcs⟩ : ∃ cs, cs = c1 + c2 := ⟨_, rfl⟩
    have z1 : IntKind.i64.wrap ((c1 : Int) + (c2 : Int)) = (cs : Int) := (by rw [wrap64 _ (by omega) (by omega)]; omega)
    have p1 : (ls.length : Int) ≤ (cs : Int) := by omega
    have p2 : ls.length ≤ cs := by omega
    have o1 : W1.one = true := by rcases hW1 with rfl | ⟨rfl, _⟩ <;> rfl
    have o2 : W2.one = true := by rcases hW2 with rfl | ⟨rfl, _⟩ <;> rfl
    clear hC hS hU hm hmay hB hil hilp h00 hall hW1 hW2 hc1 hc2 hle hl1 hl2 hcs
    rw [Yv (X := X) _ b7 _ rfl rfl]; unfold b7
    (repeat (first | rw [ZB] | rw [Ze (by simp [go_sem, e21, e22, e23, hSo, hBo]; exact ⟨rfl, rfl⟩)] | rw [ZR (by simp [lk, Za, Od.v, e21, e22, e23, hSo, hBo]; exact rfl)] | rw [Zq] | rw [Zp] | rw [ZJ] | rw [ZV] | rw [ZK] | rw [ZU] | rw [ZM] | rw [ZL] | rw [ZC] | rw [Zs] | rw [Zt] | rw [Zh (by decide)] | rw [Zr] | rw [Zf] | rw [Zg] | rw [Zb (by decide)] | rw [ZY] | rw [ZW (by simp [go_sem, e21, e22, e23, hSo, hBo]; exact ⟨rfl, rfl⟩)] | rw [ZX (by simp [lk, Za, Od.v, e21, e22, e23, hSo, hBo]; exact rfl)] | rw [ZS]))
    (try simp only [Za, List.map_cons, List.map_nil, lk, reduceIte, Nat.reduceEqDiff, Nat.zero_ne_one, Nat.one_ne_zero])
    rw [hc]
    (repeat (first | rw [ZB] | rw [Ze (by simp [go_sem, hAv, hSv, h20, Yy, e28, e28', e13, e13', z1, p1, p2, o1, o2]; exact ⟨rfl, rfl⟩)] | rw [ZR (by simp [lk, Za, Od.v, hAv, hSv, h20, Yy, e28, e28', e13, e13', z1, p1, p2, o1, o2]; exact rfl)] | rw [Zq] | rw [Zp] | rw [ZJ] | rw [ZV] | rw [ZK] | rw [ZU] | rw [ZM] | rw [ZL] | rw [ZC] | rw [Zs] | rw [Zt] | rw [Zh (by decide)] | rw [Zr] | rw [Zf] | rw [Zg] | rw [Zb (by decide)] | rw [ZY] | rw [ZW (by simp [go_sem, hAv, hSv, h20, Yy, e28, e28', e13, e13', z1, p1, p2, o1, o2]; exact ⟨rfl, rfl⟩)] | rw [ZX (by simp [lk, Za, Od.v, hAv, hSv, h20, Yy, e28, e28', e13, e13', z1, p1, p2, o1, o2]; exact rfl)] | rw [ZS]))
    simp [Yf, Yg, Yr, go_sem, fin, fz0, fz1, fzT, fzL, nlt, p1]
  · rw [Yv (X := X) _ b7 _ rfl rfl]; unfold b7; (repeat (first | rw [ZB] | rw [Ze (by simp [go_sem, e21, e22, e23]; exact ⟨rfl, rfl⟩)] | rw [ZR (by simp [lk, Za, Od.v, e21, e22, e23]; exact rfl)] | rw [Zq] | rw [Zp] | rw [ZJ] | rw [ZV] | rw [ZK] | rw [ZU] | rw [ZM] | rw [ZL] | rw [ZC] | rw [Zs] | rw [Zt] | rw [Zh (by decide)] | rw [Zr] | rw [Zf] | rw [Zg] | rw [Zb (by decide)] | rw [ZY] | rw [ZW (by simp [go_sem, e21, e22, e23]; exact ⟨rfl, rfl⟩)] | rw [ZX (by simp [lk, Za, Od.v, e21, e22, e23]; exact rfl)] | rw [ZS])); simp [Yf, Yg, Yr, go_sem, fin, fz0, fz1, fzT, fzL, nlt, e21, e22, e23]
end Go.Proofs.YtebjndbigoddnaaDoor
