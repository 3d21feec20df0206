/- Ideal runs: sets of numbers, word by word. Ideal runs: both, one of both, all below a number, all but some. Ideal runs: all but some; is a number in a set. Ideal runs: the set of some numbers. Ideal runs: the set of some numbers; are two sets the same. Ideal runs: does a comparison hold for a value; is a node ahead. Ideal runs: the rows for which a node of a column holds. Ideal runs: the sets of a filter's nodes, one after the other. Ideal runs: the sets of all nodes of a filter; the rows for which it holds. Ideal runs: for which rows a filter holds; does it hold for a row; the numbers of a set. Ideal runs: the document's functions for filters: which inputs are few and light; does a filter hold for a row, node by node. Ideal runs: the document's function: does a filter hold for a row, node by node. Ideal runs: the document's functions: does a filter hold for a row; for which rows. Plain facts: what the words of sets hold; the program's filter and the document's are one. -/
import Derived.Test.YtebjndbigoddnaaDoorCode
import Derived.Test.YtebjndbigoddnaaDoorStep
import Derived.Test.YtebjndbigoddnaaDoorPlainB
import Derived.Test.YtebjndbigoddnaaDoorPlainM
namespace Go.Proofs.YtebjndbigoddnaaDoor
attribute [local go_sem] ZN ZE ZG ZH Zy Zj Zw Zm Zo Zb Zc Zn Zz ZA ZI Zx Zk ZF Zq Zp ZZ ZD Yk put lk Od.v Za Zf Zu Yn Yc Yd Ye Yo Yl DV.isU DV.cells hget ZO Yb ZP Zv splice ZQ mat Ya Ym one_bool one_int one_str one_nilp one_ref one_elem one_nils one_list one_row one_nilm one_map one_nilf one_func one_nili one_ifc one_agg one_tup one_undef one_fresh
attribute [local go_sem ↓] Zl
set_option linter.unusedVariables false
set_option linter.unusedSimpArgs false
set_option maxRecDepth 10000
abbrev uD (n : Nat) : DV := .int .u64 (n : Int)
/-- A list of words that is only read. -/
def WL (W : DV) (ws : List Nat) : Prop := W = .list 1 (ws.map uD) false ∨ (W = .nils ∧ ws = [])
theorem WL.vw {W : DV} {ws : List Nat} (h : WL W ws) (g : ZY) : vw g 1 W = some (ws.map uD) := by
  rcases h with rfl | ⟨rfl, rfl⟩ <;> rfl
/-- The word at a place; nothing behind the last one. -/
def at_ (ws : List Nat) (k : Nat) : Nat := ws.getD k 0
theorem run43 (i : Int) (h : ZY) : E X 43 [.int .i64 i] h = some (.bool (decide (0 ≤ i) && decide (i < 65536)), h) := by
  by_cases a : 0 ≤ i
  · rw [Yt (X := X) _ b43 _ rfl rfl]; unfold b43; (repeat (first | rw [ZB] | rw [Ze (by simp [go_sem, a]; exact ⟨rfl, rfl⟩)] | rw [ZR (by simp [lk, Za, Od.v, a]; exact rfl)] | rw [Zq] | rw [Zp] | rw [ZJ] | rw [ZU] | rw [ZK] | rw [ZT] | rw [ZM] | rw [ZL] | rw [ZC] | rw [Zs] | rw [Zt] | rw [Zi (by decide)] | rw [Zr] | rw [Zg] | rw [Zh] | rw [Zd (by decide)] | rw [ZX] | rw [ZV (by simp [go_sem, a]; exact ⟨rfl, rfl⟩)] | rw [ZW (by simp [lk, Za, Od.v, a]; exact rfl)] | rw [ZS])); simp [Yf, Yg, Yq, go_sem, fin, fz0, fz1, fzT, fzL, nlt, a]
  · rw [Yt (X := X) _ b43 _ rfl rfl]; unfold b43; (repeat (first | rw [ZB] | rw [Ze (by simp [go_sem, a]; exact ⟨rfl, rfl⟩)] | rw [ZR (by simp [lk, Za, Od.v, a]; exact rfl)] | rw [Zq] | rw [Zp] | rw [ZJ] | rw [ZU] | rw [ZK] | rw [ZT] | rw [ZM] | rw [ZL] | rw [ZC] | rw [Zs] | rw [Zt] | rw [Zi (by decide)] | rw [Zr] | rw [Zg] | rw [Zh] | rw [Zd (by decide)] | rw [ZX] | rw [ZV (by simp [go_sem, a]; exact ⟨rfl, rfl⟩)] | rw [ZW (by simp [lk, Za, Od.v, a]; exact rfl)] | rw [ZS])); simp [Yf, Yg, Yq, go_sem, fin, fz0, fz1, fzT, fzL, nlt, a]
/-- The heap in which a set is made. -/
def hb (H : ZY) (ws : List Nat) : ZY := H ++ [.box 30 [.nils], .row 82 1 0 (ws.map uD)]
section
variable {H : ZY} {ws : List Nat} {n : Nat}
end
end Go.Proofs.YtebjndbigoddnaaDoor
namespace Go.Proofs.YtebjndbigoddnaaDoor
set_option linter.unusedVariables false
set_option linter.unusedSimpArgs false
set_option maxRecDepth 10000
def WB (ws : List Nat) : Prop := ∀ x ∈ ws, x < 18446744073709551616
theorem WB.at {ws : List Nat} (h : WB ws) (k : Nat) : at_ ws k < 18446744073709551616 := by
  unfold at_
  by_cases hk : k < ws.length
  · simp only [List.getD, List.getElem?_eq_getElem hk, Option.getD_some]; exact h _ (List.getElem_mem _)
  · simp [List.getD, List.getElem?_eq_none (Nat.le_of_not_lt hk)]
theorem or_n {a b : Nat} (ha : a < 18446744073709551616) (hb : b < 18446744073709551616) : IntKind.u64.wrap ((a % 2 ^ IntKind.u64.bits ||| b % 2 ^ IntKind.u64.bits : Nat) : Int) = ((a ||| b : Nat) : Int) := by
  rw [bits_u, Nat.mod_eq_of_lt ha, Nat.mod_eq_of_lt hb, wrapu, Nat.mod_eq_of_lt]
  exact Nat.or_lt_two_pow (n := 64) ha hb
theorem mm_clamp (n : Nat) : mm true .i64 (n : Int) [.int .i64 0] = some (n : Int) := by
  have h : ¬ (n : Int) < 0 := by omega
  simp [mm, h]
/-- Is a number in a set? -/
def bit (ws : List Nat) (i : Nat) : Bool := (at_ ws (i / 64)).testBit (i % 64)
/-- Words with a number put in. -/
def padW (ws : List Nat) (n : Nat) : List Nat := ws ++ List.replicate (n - ws.length) 0
def putW (ws : List Nat) (i : Nat) : List Nat := (padW ws (i / 64 + 1)).set (i / 64) (at_ (padW ws (i / 64 + 1)) (i / 64) ||| 2 ^ (i % 64))
theorem padW_len (ws : List Nat) (n : Nat) : (padW ws n).length = max ws.length n := by simp [padW]; omega
theorem putW_len (ws : List Nat) (i : Nat) : (putW ws i).length = max ws.length (i / 64 + 1) := by simp [putW, padW_len]
theorem padW_le {ws : List Nat} {n : Nat} (h : n ≤ ws.length) : padW ws n = ws := by simp [padW, show n - ws.length = 0 by omega]
theorem padW_step {ws : List Nat} {n : Nat} (h : ws.length < n) : padW (ws ++ [0]) n = padW ws n := by
  simp only [padW, List.length_append, List.length_cons, List.length_nil, List.append_assoc]
  rw [show n - ws.length = (n - (ws.length + (0 + 1))) + 1 by omega, List.replicate_succ]
  rfl
theorem or_p {a j : Nat} (ha : a < 18446744073709551616) (hj : j < 64) : IntKind.u64.wrap ((a % 2 ^ IntKind.u64.bits ||| 2 ^ j % 2 ^ IntKind.u64.bits : Nat) : Int) = ((a ||| 2 ^ j : Nat) : Int) :=
  or_n ha (Nat.pow_lt_pow_right (by omega : 1 < 2) hj)
/-- Where words lie that are made. -/
def MadeW (h : ZY) (H : ZY) (w : DV) (ws : List Nat) : Prop := (w = .nils ∧ ws = [] ∧ h = H) ∨ ∃ g, w = .row H.length g 0 ws.length false ∧ h = H ++ [.row 82 1 g (ws.map uD)]
theorem MadeW.vw {h H : ZY} {w : DV} {ws : List Nat} (hm : MadeW h H w ws) : vw h 1 w = some (ws.map uD) := by
  rcases hm with ⟨rfl, rfl, rfl⟩ | ⟨g, rfl, rfl⟩
  · rfl
  · simp [Go.Proofs.YtebjndbigoddnaaDoor.vw, ZO, List.take_of_length_le]
theorem MadeW.app {h H : ZY} {w : DV} {ws : List Nat} (hm : MadeW h H w ws) (hb : ws.length ≤ 1000000) (x : Nat) : ∃ w' h', appx h 82 1 8 w (ws.map uD) [uD x] = some (w', h') ∧ MadeW h' H w' (ws ++ [x]) := by
  have hle : ((ws.map uD).length + [uD x].length) * 8 ≤ 140737488355328 := by simp; omega
  rcases hm with ⟨rfl, rfl, rfl⟩ | ⟨g, rfl, rfl⟩
  · exact ⟨_, _, by simp [appx], .inr ⟨0, rfl, rfl⟩⟩
  · refine ⟨.row H.length (g + 1) 0 (ws.length + 1) false, H ++ [.row 82 1 (g + 1) ((ws ++ [x]).map uD)], ?_, .inr ⟨g + 1, by simp, rfl⟩⟩
    simp only [appx, if_pos hle, ZO]
    simp [ZP]
theorem loop44 {H : ZY} (i : Nat) (hi : i < 65536) : ∀ (m : Nat) (w : DV) (ws : List Nat) (h : ZY), i / 64 + 1 - ws.length ≤ m → ws.length ≤ 100000 → MadeW h H w ws →
      ∃ w' ex h', C X (.loop lp44_0) [(0, w), (1, .int .i64 i)] h = some (.exit 0, (0, w') :: (1, .int .i64 i) :: ex, h') ∧ MadeW h' H w' (padW ws (i / 64 + 1)) := by
  intro m
  obtain ⟨k, hk⟩ : ∃ k, k = i / 64 := ⟨_, rfl⟩
  have w1 : IntKind.i64.wrap ((i : Int) / 64) = (k : Int) := (by rw [wrap64 _ (by omega) (by omega)]; omega)
  induction m with
  | zero =>
    intro w ws h hm hb hM
    have hv := hM.vw
    have c1 : ¬ ws.length ≤ k := by omega
    refine ⟨w, [(9, .bool false)], h, ?_, by rw [padW_le (by omega)]; exact hM⟩
    rw [Yj]
    unfold lp44_0
    (repeat (first | rw [ZB] | rw [Ze (by simp [ZN, ZE, ZG, ZH, Zy, Zj, Zw, Zm, Zo, Zb, Zc, Zn, Zz, ZA, ZI, ↓Zl, Zx, Zk, ZF, Zq, Zp, ZZ, ZD, Yk, put, lk, Od.v, Za, Zf, Zu, Yn, Yc, Yd, Ye, Yo, Yl, DV.isU, DV.cells, hget, ZO, Yb, ZP, Zv, splice, DV.one, ZQ, mat, Ya, Ym, hv, w1, c1]; exact ⟨rfl, rfl⟩)] | rw [ZR (by simp [lk, Za, Od.v, hv, w1, c1]; exact rfl)] | rw [Zq] | rw [Zp] | rw [ZJ] | rw [ZU] | rw [ZK] | rw [ZT] | rw [ZM] | rw [ZL] | rw [ZC] | rw [Zs] | rw [Zt] | rw [Zi (by decide)] | rw [Zr] | rw [Zg] | rw [Zh] | rw [Zd (by decide)] | rw [ZX] | rw [ZV (by simp [ZN, ZE, ZG, ZH, Zy, Zj, Zw, Zm, Zo, Zb, Zc, Zn, Zz, ZA, ZI, ↓Zl, Zx, Zk, ZF, Zq, Zp, ZZ, ZD, Yk, put, lk, Od.v, Za, Zf, Zu, Yn, Yc, Yd, Ye, Yo, Yl, DV.isU, DV.cells, hget, ZO, Yb, ZP, Zv, splice, DV.one, ZQ, mat, Ya, Ym, hv, w1, c1]; exact ⟨rfl, rfl⟩)] | rw [ZW (by simp [lk, Za, Od.v, hv, w1, c1]; exact rfl)] | rw [ZS]))
    rw [Yr]
    simp [Za, lk]
  | succ m ih =>
    intro w ws h hm hb hM
    by_cases c1 : ws.length ≤ k
    · obtain ⟨w', h', ha, hM'⟩ := hM.app (by omega) 0
      have hv := hM.vw
      have hs : C X lp44_0 [(0, w), (1, .int .i64 i)] h = some (.norm, [(0, w'), (1, .int .i64 i)], h') := by
        unfold lp44_0
        have z1 : vw h 1 (.list 1 [.int .u64 0] true) = some [.int .u64 0] := rfl
        have z2 : srcOf h 1 (.list 1 [.int .u64 0] true) = some [.int .u64 0] := rfl
        have z5 : ∀ h, eltL [.int .u64 0] h = some ([.int .u64 0], h) := fun _ => rfl
        rw [show uD 0 = .int .u64 0 from rfl] at ha
        have z3 : Wc 1 (.int .u64 0) := by simp [Wc, DV.cells, DV.one]
        have z4 : Nr (.int .u64 0) := .int _ _
        (repeat (first | rw [ZB] | rw [Ze (by simp [ZN, ZE, ZG, ZH, Zy, Zj, Zw, Zm, Zo, Zb, Zc, Zn, Zz, ZA, ZI, ↓Zl, Zx, Zk, ZF, Zq, Zp, ZZ, ZD, Yk, put, lk, Od.v, Za, Zf, Zu, Yn, Yc, Yd, Ye, Yo, Yl, DV.isU, DV.cells, hget, ZO, Yb, ZP, Zv, splice, DV.one, ZQ, mat, Ya, Ym, hv, w1, c1, ha, z1, z2, z3, z4, z5]; exact ⟨rfl, rfl⟩)] | rw [ZR (by simp [lk, Za, Od.v, hv, w1, c1, ha, z1, z2, z3, z4, z5]; exact rfl)] | rw [Zq] | rw [Zp] | rw [ZJ] | rw [ZU] | rw [ZK] | rw [ZT] | rw [ZM] | rw [ZL] | rw [ZC] | rw [Zs] | rw [Zt] | rw [Zi (by decide)] | rw [Zr] | rw [Zg] | rw [Zh] | rw [Zd (by decide)] | rw [ZX] | rw [ZV (by simp [ZN, ZE, ZG, ZH, Zy, Zj, Zw, Zm, Zo, Zb, Zc, Zn, Zz, ZA, ZI, ↓Zl, Zx, Zk, ZF, Zq, Zp, ZZ, ZD, Yk, put, lk, Od.v, Za, Zf, Zu, Yn, Yc, Yd, Ye, Yo, Yl, DV.isU, DV.cells, hget, ZO, Yb, ZP, Zv, splice, DV.one, ZQ, mat, Ya, Ym, hv, w1, c1, ha, z1, z2, z3, z4, z5]; exact ⟨rfl, rfl⟩)] | rw [ZW (by simp [lk, Za, Od.v, hv, w1, c1, ha, z1, z2, z3, z4, z5]; exact rfl)] | rw [ZS]))
        simp [Za, lk]
      rw [Yj, hs, Yu]
      obtain ⟨w2, ex, h2, r1, r2⟩ := ih w' (ws ++ [0]) h' (by simp; omega) (by simp; omega) hM'
      exact ⟨w2, ex, h2, r1, by rw [← padW_step (by omega)]; exact r2⟩
    · exact ih w ws h (by omega) hb hM

theorem mw_wr {H : ZY} {g : Nat} {ws : List Nat} {n : Nat} (hn : ws.length = n) {i : Nat} (hi : i < n) (x : Nat) : stx (H ++ [.row 82 1 g (ws.map uD)]) 1 (.elem (.row H.length g 0 n false) 1 i 0) (.int .u64 x) = some (H ++ [.row 82 1 g ((ws.set i x).map uD)]) := by
  subst hn
  have h1 : (H ++ [HO.row 82 1 g (ws.map uD)])[H.length]? = some (.row 82 1 g (ws.map uD)) := by simp [ZO]
  have h2 : (ws.map uD)[i]? = some (uD ws[i]) := by simp [List.getElem?_eq_getElem hi]
  rw [stx, if_pos (by simp [DV.cells, DV.one])]
  simp only [h1]
  rw [if_pos (by simp [hi])]
  simp only [Nat.zero_add, h2]
  simp [eput, DV.one, ZP]
theorem body44 {H h : ZY} {w : DV} {ws : List Nat} (hM : MadeW h H w ws) (bw : WB ws) (i : Nat) (hi : i < 65536) (hb : ws.length ≤ 100000) :
    ∃ g, C X b44 [(0, w), (1, .int .i64 i)] h = some (.ret, [(4, .row H.length g 0 (putW ws i).length false)], H ++ [.row 82 1 g ((putW ws i).map uD)]) := by
  obtain ⟨w', ex, h', c1, hM'⟩ := loop44 (H := H) i hi (i / 64 + 1) w ws h (by omega) hb hM
  have bp : WB (padW ws (i / 64 + 1)) := by
    intro x hx
    rcases List.mem_append.1 hx with hx | hx
    · exact bw x hx
    · rw [List.mem_replicate] at hx; omega
  have hpl := padW_len ws (i / 64 + 1)
  have hpu : putW ws i = (padW ws (i / 64 + 1)).set (i / 64) (at_ (padW ws (i / 64 + 1)) (i / 64) ||| 2 ^ (i % 64)) := rfl
  rw [hpu]
  generalize padW ws (i / 64 + 1) = us at *
  rcases hM' with ⟨_, hn, _⟩ | ⟨g, rfl, rfl⟩
  · subst hn; simp at hpl; omega
  obtain ⟨k, hk⟩ : ∃ k, k = i / 64 := ⟨_, rfl⟩
  obtain ⟨j, hj⟩ : ∃ j, j = i % 64 := ⟨_, rfl⟩
  have hj' : j < 64 := by omega
  have hk' : k < us.length := by omega
  rw [← hk, ← hj]
  have w1 : IntKind.i64.wrap ((i : Int) / 64) = (k : Int) := (by rw [wrap64 _ (by omega) (by omega)]; omega)
  have w2 : ((i : Int)).tmod 64 = (j : Int) := by rw [Int.tmod_eq_emod_of_nonneg (by omega)]; omega
  have w3 : IntKind.u64.wrap (2 ^ min j IntKind.u64.bits) = ((2 ^ j : Nat) : Int) := by
    have hPl : 2 ^ j < 18446744073709551616 := Nat.pow_lt_pow_right (by omega : 1 < 2) hj'
    rw [show min j IntKind.u64.bits = j from Nat.min_eq_left (by simp [IntKind.bits]; omega), show (2 : Int) ^ j = ((2 ^ j : Nat) : Int) by simp, wrapu, Nat.mod_eq_of_lt hPl]
  have w4 := or_p (bp.at k) hj'
  have d0 : ¬ (j : Int) < 0 := by omega
  have e1 : at_ us k = us[k] := by simp [at_, List.getD, List.getElem?_eq_getElem hk']
  have a2 := mw_wr (H := H) (g := g) (ws := us) rfl hk' (at_ us k ||| 2 ^ j)
  obtain ⟨P, hP⟩ : ∃ P, P = 2 ^ j := ⟨_, rfl⟩
  rw [← hP] at w3 w4 a2 ⊢
  have a1 : vw (H ++ [HO.row 82 1 g (us.map uD)]) 1 (.row H.length g 0 us.length false) = some (us.map uD) := by
    simp [vw, ZO, List.take_of_length_le]
  refine ⟨g, ?_⟩
  unfold b44
  (repeat (first | rw [ZB] | rw [Ze (by simp [ZN, ZE, ZG, ZH, Zy, Zj, Zw, Zm, Zo, Zb, Zc, Zn, Zz, ZA, ZI, ↓Zl, Zx, Zk, ZF, Zq, Zp, ZZ, ZD, Yk, put, lk, Od.v, Za, Zf, Zu, Yn, Yc, Yd, Ye, Yo, Yl, DV.isU, DV.cells, hget, ZO, Yb, ZP, Zv, splice, DV.one, ZQ, mat, Ya, Ym, w1]; exact ⟨rfl, rfl⟩)] | rw [ZR (by simp [lk, Za, Od.v, w1]; exact rfl)] | rw [Zq] | rw [Zp] | rw [ZJ] | rw [ZU] | rw [ZK] | rw [ZT] | rw [ZM] | rw [ZL] | rw [ZC] | rw [Zs] | rw [Zt] | rw [Zi (by decide)] | rw [Zr] | rw [Zg] | rw [Zh] | rw [Zd (by decide)] | rw [ZX] | rw [ZV (by simp [ZN, ZE, ZG, ZH, Zy, Zj, Zw, Zm, Zo, Zb, Zc, Zn, Zz, ZA, ZI, ↓Zl, Zx, Zk, ZF, Zq, Zp, ZZ, ZD, Yk, put, lk, Od.v, Za, Zf, Zu, Yn, Yc, Yd, Ye, Yo, Yl, DV.isU, DV.cells, hget, ZO, Yb, ZP, Zv, splice, DV.one, ZQ, mat, Ya, Ym, w1]; exact ⟨rfl, rfl⟩)] | rw [ZW (by simp [lk, Za, Od.v, w1]; exact rfl)] | rw [ZS]))
  (try simp only [Za, List.map_cons, List.map_nil, lk, reduceIte, Nat.reduceEqDiff, Nat.zero_ne_one, Nat.one_ne_zero])
  rw [c1]
  rw [e1] at w4 a2 ⊢
  (repeat (first | rw [ZB] | rw [Ze (by simp [ZN, ZE, ZG, ZH, Zy, Zj, Zw, Zm, Zo, Zb, Zc, Zn, Zz, ZA, ZI, ↓Zl, Zx, Zk, ZF, Zq, Zp, ZZ, ZD, Yk, put, lk, Od.v, Za, Zf, Zu, Yn, Yc, Yd, Ye, Yo, Yl, DV.isU, DV.cells, hget, ZO, Yb, ZP, Zv, splice, DV.one, ZQ, mat, Ya, Ym, w1, w2, w3, w4, d0, a1, a2, hk', Yw]; exact ⟨rfl, rfl⟩)] | rw [ZR (by simp [lk, Za, Od.v, w1, w2, w3, w4, d0, a1, a2, hk', Yw]; exact rfl)] | rw [Zq] | rw [Zp] | rw [ZJ] | rw [ZU] | rw [ZK] | rw [ZT] | rw [ZM] | rw [ZL] | rw [ZC] | rw [Zs] | rw [Zt] | rw [Zi (by decide)] | rw [Zr] | rw [Zg] | rw [Zh] | rw [Zd (by decide)] | rw [ZX] | rw [ZV (by simp [ZN, ZE, ZG, ZH, Zy, Zj, Zw, Zm, Zo, Zb, Zc, Zn, Zz, ZA, ZI, ↓Zl, Zx, Zk, ZF, Zq, Zp, ZZ, ZD, Yk, put, lk, Od.v, Za, Zf, Zu, Yn, Yc, Yd, Ye, Yo, Yl, DV.isU, DV.cells, hget, ZO, Yb, ZP, Zv, splice, DV.one, ZQ, mat, Ya, Ym, w1, w2, w3, w4, d0, a1, a2, hk', Yw]; exact ⟨rfl, rfl⟩)] | rw [ZW (by simp [lk, Za, Od.v, w1, w2, w3, w4, d0, a1, a2, hk', Yw]; exact rfl)] | rw [ZS]))
  simp [Za, lk]
theorem run44a (i : Nat) (hi : i < 65536) (H : ZY) : E X 44 [.nils, .int .i64 i] H = some (.fresh 82 1 ((putW [] i).map uD), H) := by
  obtain ⟨g, c⟩ := body44 (H := H) (h := H) (w := .nils) (ws := []) (.inl ⟨rfl, rfl, rfl⟩) (by intro x hx; cases hx) i hi (by simp)
  rw [Yt (X := X) _ b44 _ rfl rfl]
  simp only [Zf]
  rw [c, Yf]
  simp only [Yq, lk, Option.map_some, reduceIte, Option.some.injEq]
  simp only [fin]
  rw [if_pos List.take_left]
  have q1 : ∀ y ∈ (putW [] i).map uD, Nr y := by intro y hy; obtain ⟨z, _, rfl⟩ := List.mem_map.1 hy; exact .int _ _
  simp only [fz1, fz0]
  rw [if_neg (by omega), ZO]
  simp only [List.getElem?_cons_zero]
  rw [if_pos ⟨rfl, by simp, q1⟩, if_pos (by simp)]
theorem run44b {ws : List Nat} {g : Nat} (bw : WB ws) (i : Nat) (hi : i < 65536) (hb : ws.length ≤ 100000) (H : ZY) : ∃ g', E X 44 [.row H.length g 0 ws.length false, .int .i64 i] (H ++ [.row 82 1 g (ws.map uD)]) =
    some (.row H.length g' 0 (putW ws i).length false, H ++ [.row 82 1 g' ((putW ws i).map uD)]) := by
  obtain ⟨g', c⟩ := body44 (H := H) (h := H ++ [.row 82 1 g (ws.map uD)]) (w := .row H.length g 0 ws.length false) (ws := ws) (.inr ⟨g, rfl, rfl⟩) bw i hi hb
  refine ⟨g', ?_⟩
  rw [Yt (X := X) _ b44 _ rfl rfl]
  simp only [Zf]
  rw [c, Yf]
  simp only [Yq, lk, Option.map_some, reduceIte, Option.some.injEq]
  simp only [fin]
  split
  · rename_i ht
    rw [List.take_of_length_le (by simp)] at ht
    simp only [fz1, fz0]
    rw [if_pos (by simp)]
    simp [ht]
  · rfl
abbrev iD (n : Nat) : DV := .int .i64 (n : Int)
theorem putW_WB {ws : List Nat} (bw : WB ws) (i : Nat) : WB (putW ws i) := by
  have bp : WB (padW ws (i / 64 + 1)) := by
    intro x hx
    rcases List.mem_append.1 hx with hx | hx
    · exact bw x hx
    · rw [List.mem_replicate] at hx; omega
  intro x hx
  unfold putW at hx
  rcases List.mem_or_eq_of_mem_set hx with hx | rfl
  · exact bp x hx
  · exact Nat.or_lt_two_pow (n := 64) (bp.at _) (Nat.pow_lt_pow_right (by omega : 1 < 2) (by omega : i % 64 < 64))
def ofW (l : List Nat) : List Nat := l.foldl putW []
theorem loop11 {H : ZY} {A : DV} {l : List Nat} (hA : ∀ L, vw (H ++ L) 1 A = some (l.map iD)) (hl : ∀ x ∈ l, x < 65536) (hll : l.length ≤ 1000000) :
    ∀ (m i : Nat) (w : DV) (ws : List Nat) (h : ZY), l.length - i ≤ m → i ≤ l.length → WB ws → ws.length ≤ 1024 → MadeW h (H ++ [.box 30 [.nils]]) w ws →
      ∃ x ex w' h', C X (.loop lp11_0) [(2, .ref H.length 0), (3, w), (6, A), (7, .int .i64 l.length), (8, .int .i64 i)] h = some (.exit 0, (2, .ref H.length 0) :: (3, w') :: (6, A) :: (7, .int .i64 l.length) :: (8, x) :: ex, h') ∧
        MadeW h' (H ++ [.box 30 [.nils]]) w' ((l.drop i).foldl putW ws) := by
  intro m
  induction m with
  | zero =>
    intro i w ws h hm hi bw hb hM
    obtain rfl : i = l.length := by omega
    refine ⟨.int .i64 l.length, [(9, .bool false)], w, h, ?_, by simpa using hM⟩
    rw [Yj]
    unfold lp11_0
    (repeat (first | rw [ZB] | rw [Ze (by simp [ZN, ZE, ZG, ZH, Zy, Zj, Zw, Zm, Zo, Zb, Zc, Zn, Zz, ZA, ZI, ↓Zl, Zx, Zk, ZF, Zq, Zp, ZZ, ZD, Yk, put, lk, Od.v, Za, Zf, Zu, Yn, Yc, Yd, Ye, Yo, Yl, DV.isU, DV.cells, hget, ZO, Yb, ZP, Zv, splice, DV.one, ZQ, mat, Ya, Ym]; exact ⟨rfl, rfl⟩)] | rw [ZR (by simp [lk, Za, Od.v]; exact rfl)] | rw [Zq] | rw [Zp] | rw [ZJ] | rw [ZU] | rw [ZK] | rw [ZT] | rw [ZM] | rw [ZL] | rw [ZC] | rw [Zs] | rw [Zt] | rw [Zi (by decide)] | rw [Zr] | rw [Zg] | rw [Zh] | rw [Zd (by decide)] | rw [ZX] | rw [ZV (by simp [ZN, ZE, ZG, ZH, Zy, Zj, Zw, Zm, Zo, Zb, Zc, Zn, Zz, ZA, ZI, ↓Zl, Zx, Zk, ZF, Zq, Zp, ZZ, ZD, Yk, put, lk, Od.v, Za, Zf, Zu, Yn, Yc, Yd, Ye, Yo, Yl, DV.isU, DV.cells, hget, ZO, Yb, ZP, Zv, splice, DV.one, ZQ, mat, Ya, Ym]; exact ⟨rfl, rfl⟩)] | rw [ZW (by simp [lk, Za, Od.v]; exact rfl)] | rw [ZS]))
    rw [Yr]
    simp [Za, lk]
  | succ m ih =>
    intro i w ws h hm hi bw hb hM
    by_cases c1 : i < l.length
    · obtain ⟨I, hI⟩ : ∃ I, I = i + 1 := ⟨_, rfl⟩
      have w1 : IntKind.i64.wrap ((i : Int) + 1) = (I : Int) := (by rw [wrap64 _ (by omega) (by omega)]; omega)
      have hx : l[i] < 65536 := hl _ (List.getElem_mem _)
      have hd : l.drop i = l[i] :: l.drop I := by rw [hI]; exact List.drop_eq_getElem_cons c1
      obtain ⟨L, hL⟩ : ∃ L, h = H ++ L := by
        rcases hM with ⟨_, _, rfl⟩ | ⟨g, _, rfl⟩
        · exact ⟨_, rfl⟩
        · exact ⟨_, List.append_assoc _ _ _⟩
      have hv : vw h 1 A = some (l.map iD) := by rw [hL]; exact hA _
      have c2 := run43 (l[i] : Int)
      have d1 : decide ((0 : Int) ≤ l[i]) = true := by simp
      have d2 : decide ((l[i] : Int) < 65536) = true := by simp; omega
      rw [d1, d2, Bool.and_self] at c2
      have hg : (l.map iD)[i]? = some (iD l[i]) := by simp [List.getElem?_eq_getElem c1]
      obtain ⟨w', h', hc, hM'⟩ : ∃ w' h', C X lp11_0 [(2, .ref H.length 0), (3, w), (6, A), (7, .int .i64 l.length), (8, .int .i64 i)] h = some (.norm, [(2, .ref H.length 0), (3, w'), (6, A), (7, .int .i64 l.length), (8, .int .i64 I)], h') ∧ MadeW h' (H ++ [.box 30 [.nils]]) w' (putW ws l[i]) := by
        clear ih
        rcases hM with ⟨rfl, rfl, rfl⟩ | ⟨g, rfl, rfl⟩
        · have e1 := run44a l[i] hx (H ++ [.box 30 [.nils]])
          generalize hq : putW [] l[i] = q at *
          refine ⟨.row (H ++ [HO.box 30 [.nils]]).length 0 0 q.length false, H ++ [.box 30 [.nils]] ++ [.row 82 1 0 (q.map uD)], ?_, .inr ⟨0, rfl, rfl⟩⟩
          unfold lp11_0
          (repeat (first | rw [ZB] | rw [Ze (by simp [ZN, ZE, ZG, ZH, Zy, Zj, Zw, Zm, Zo, Zb, Zc, Zn, Zz, ZA, ZI, ↓Zl, Zx, Zk, ZF, Zq, Zp, ZZ, ZD, Yk, put, lk, Od.v, Za, Zf, Zu, Yn, Yc, Yd, Ye, Yo, Yl, DV.isU, DV.cells, hget, ZO, Yb, ZP, Zv, splice, DV.one, ZQ, mat, Ya, Ym, c1, w1, hv, hg, Yw, c2, e1]; exact ⟨rfl, rfl⟩)] | rw [ZR (by simp [lk, Za, Od.v, c1, w1, hv, hg, Yw, c2, e1]; exact rfl)] | rw [Zq] | rw [Zp] | rw [ZJ] | rw [ZU] | rw [ZK] | rw [ZT] | rw [ZM] | rw [ZL] | rw [ZC] | rw [Zs] | rw [Zt] | rw [Zi (by decide)] | rw [Zr] | rw [Zg] | rw [Zh] | rw [Zd (by decide)] | rw [ZX] | rw [ZV (by simp [ZN, ZE, ZG, ZH, Zy, Zj, Zw, Zm, Zo, Zb, Zc, Zn, Zz, ZA, ZI, ↓Zl, Zx, Zk, ZF, Zq, Zp, ZZ, ZD, Yk, put, lk, Od.v, Za, Zf, Zu, Yn, Yc, Yd, Ye, Yo, Yl, DV.isU, DV.cells, hget, ZO, Yb, ZP, Zv, splice, DV.one, ZQ, mat, Ya, Ym, c1, w1, hv, hg, Yw, c2, e1]; exact ⟨rfl, rfl⟩)] | rw [ZW (by simp [lk, Za, Od.v, c1, w1, hv, hg, Yw, c2, e1]; exact rfl)] | rw [ZS]))
          simp [Za, lk]
        · obtain ⟨g', e1⟩ := run44b (g := g) bw l[i] hx (by omega) (H ++ [.box 30 [.nils]])
          generalize hq : putW ws l[i] = q at *
          refine ⟨.row (H ++ [HO.box 30 [.nils]]).length g' 0 q.length false, H ++ [.box 30 [.nils]] ++ [.row 82 1 g' (q.map uD)], ?_, .inr ⟨g', rfl, rfl⟩⟩
          generalize hh : H ++ [HO.box 30 [.nils]] ++ [.row 82 1 g (ws.map uD)] = h1 at *
          generalize hh2 : H ++ [HO.box 30 [.nils]] ++ [.row 82 1 g' (q.map uD)] = h2 at *
          generalize (H ++ [HO.box 30 [.nils]]).length = o at *
          unfold lp11_0
          (repeat (first | rw [ZB] | rw [Ze (by simp [ZN, ZE, ZG, ZH, Zy, Zj, Zw, Zm, Zo, Zb, Zc, Zn, Zz, ZA, ZI, ↓Zl, Zx, Zk, ZF, Zq, Zp, ZZ, ZD, Yk, put, lk, Od.v, Za, Zf, Zu, Yn, Yc, Yd, Ye, Yo, Yl, DV.isU, DV.cells, hget, ZO, Yb, ZP, Zv, splice, DV.one, ZQ, mat, Ya, Ym, c1, w1, hv, hg, Yw, c2, e1]; exact ⟨rfl, rfl⟩)] | rw [ZR (by simp [lk, Za, Od.v, c1, w1, hv, hg, Yw, c2, e1]; exact rfl)] | rw [Zq] | rw [Zp] | rw [ZJ] | rw [ZU] | rw [ZK] | rw [ZT] | rw [ZM] | rw [ZL] | rw [ZC] | rw [Zs] | rw [Zt] | rw [Zi (by decide)] | rw [Zr] | rw [Zg] | rw [Zh] | rw [Zd (by decide)] | rw [ZX] | rw [ZV (by simp [ZN, ZE, ZG, ZH, Zy, Zj, Zw, Zm, Zo, Zb, Zc, Zn, Zz, ZA, ZI, ↓Zl, Zx, Zk, ZF, Zq, Zp, ZZ, ZD, Yk, put, lk, Od.v, Za, Zf, Zu, Yn, Yc, Yd, Ye, Yo, Yl, DV.isU, DV.cells, hget, ZO, Yb, ZP, Zv, splice, DV.one, ZQ, mat, Ya, Ym, c1, w1, hv, hg, Yw, c2, e1]; exact ⟨rfl, rfl⟩)] | rw [ZW (by simp [lk, Za, Od.v, c1, w1, hv, hg, Yw, c2, e1]; exact rfl)] | rw [ZS]))
          simp [Za, lk]
      rw [Yj, hc, Yu, hd, List.foldl_cons]
      exact ih I w' _ h' (by omega) (by omega) (putW_WB bw _) (by rw [putW_len]; omega) hM'
    · exact ih i w ws h (by omega) hi bw hb hM

theorem fin_made {H h : ZY} {w : DV} {ws : List Nat} (hm : MadeW h (H ++ [.box 30 [w]]) w ws) : ∃ W, fin H h [.agg [w]] = (.agg [W], H) ∧ WL W ws := by
  rcases hm with ⟨rfl, rfl, rfl⟩ | ⟨g, hw, rfl⟩
  · refine ⟨.nils, ?_, .inr ⟨rfl, rfl⟩⟩
    simp only [fin]
    rw [if_pos List.take_left]
    simp [fz1, fzL, fz0]
  · have hw' : w = .row (H.length + 1) g 0 ws.length false := by simpa using hw
    clear hw
    subst hw'
    refine ⟨_, ?_, .inl rfl⟩
    have q1 : ∀ y ∈ ws.map uD, Nr y := by intro y hy; obtain ⟨z, _, rfl⟩ := List.mem_map.1 hy; exact .int _ _
    simp only [fin]
    rw [if_pos (by rw [List.append_assoc, List.take_left])]
    simp only [fz1, fzL]
    rw [fz0, if_neg (by simp), List.append_assoc, hget]
    simp only [List.cons_append, List.nil_append, List.getElem?_cons_succ, List.getElem?_cons_zero]
    rw [if_pos ⟨rfl, by simp, q1⟩, if_neg (by simp)]
    simp [List.take_of_length_le]
theorem foldl_WB : ∀ (l ws : List Nat), WB ws → WB (l.foldl putW ws)
  | [], ws, h => h
  | x :: l, ws, h => foldl_WB l _ (putW_WB h x)
theorem ofW_WB (l : List Nat) : WB (ofW l) := foldl_WB l [] (by intro x hx; cases hx)
theorem run11 {A : DV} {l : List Nat} {H : ZY} (hA : ∀ L, vw (H ++ L) 1 A = some (l.map iD)) (hl : ∀ x ∈ l, x < 65536) (hll : l.length ≤ 1000000) : ∃ W, E X 11 [A] H = some (.agg [W], H) ∧ WL W (ofW l) := by
  obtain ⟨x, ex, w', h', c1, hM⟩ := loop11 hA hl hll l.length 0 .nils [] (H ++ [.box 30 [.nils]]) (by omega) (by omega) (by intro x hx; cases hx) (by simp) (.inl ⟨rfl, rfl, rfl⟩)
  rw [List.drop_zero] at hM
  have hM' : MadeW (h'.set H.length (.box 30 [w'])) (H ++ [.box 30 [w']]) w' (ofW l) := by
    rcases hM with ⟨a1, a2, rfl⟩ | ⟨g, a1, rfl⟩
    · exact .inl ⟨a1, a2, by simp [ZP]⟩
    · exact .inr ⟨g, by rw [a1]; simp [ofW], by rw [List.append_assoc, ZP]; simp [ofW]⟩
  have g1 : h'[H.length]? = some (.box 30 [.nils]) := by
    rcases hM with ⟨a1, a2, rfl⟩ | ⟨g, a1, rfl⟩
    · simp [ZO]
    · rw [List.append_assoc, ZO]; rfl
  have g2 : w' = .nils ∨ ∃ o g n, w' = .row o g 0 n false := by
    rcases hM with ⟨rfl, a2, rfl⟩ | ⟨g, rfl, rfl⟩
    · exact .inl rfl
    · exact .inr ⟨_, _, _, rfl⟩
  obtain ⟨W, hf, hW⟩ := fin_made hM'
  have hv := hA [.box 30 [.nils]]
  refine ⟨W, ?_, hW⟩
  rw [show ((0 : Nat) : Int) = 0 from rfl] at c1
  rw [Yt (X := X) _ b11 _ rfl rfl]; unfold b11
  (repeat (first | rw [ZB] | rw [Ze (by simp [ZN, ZE, ZG, ZH, Zy, Zj, Zw, Zm, Zo, Zb, Zc, Zn, Zz, ZA, ZI, ↓Zl, Zx, Zk, ZF, Zq, Zp, ZZ, ZD, Yk, put, lk, Od.v, Za, Zf, Zu, Yn, Yc, Yd, Ye, Yo, Yl, DV.isU, DV.cells, hget, ZO, Yb, ZP, Zv, splice, DV.one, ZQ, mat, Ya, Ym, hv]; exact ⟨rfl, rfl⟩)] | rw [ZR (by simp [lk, Za, Od.v, hv]; exact rfl)] | rw [Zq] | rw [Zp] | rw [ZJ] | rw [ZU] | rw [ZK] | rw [ZT] | rw [ZM] | rw [ZL] | rw [ZC] | rw [Zs] | rw [Zt] | rw [Zi (by decide)] | rw [Zr] | rw [Zg] | rw [Zh] | rw [Zd (by decide)] | rw [ZX] | rw [ZV (by simp [ZN, ZE, ZG, ZH, Zy, Zj, Zw, Zm, Zo, Zb, Zc, Zn, Zz, ZA, ZI, ↓Zl, Zx, Zk, ZF, Zq, Zp, ZZ, ZD, Yk, put, lk, Od.v, Za, Zf, Zu, Yn, Yc, Yd, Ye, Yo, Yl, DV.isU, DV.cells, hget, ZO, Yb, ZP, Zv, splice, DV.one, ZQ, mat, Ya, Ym, hv]; exact ⟨rfl, rfl⟩)] | rw [ZW (by simp [lk, Za, Od.v, hv]; exact rfl)] | rw [ZS]))
  (try simp only [Za, List.map_cons, List.map_nil, lk, reduceIte, Nat.reduceEqDiff, Nat.zero_ne_one, Nat.one_ne_zero])
  rw [c1]
  have g3 : (h'.set H.length (.box 30 [w']))[H.length]? = some (.box 30 [w']) := List.getElem?_set_self (List.getElem?_eq_some_iff.1 g1).1
  clear hM hM'
  rcases g2 with rfl | ⟨o, g, n, rfl⟩
  · (repeat (first | rw [ZB] | rw [Ze (by simp [ZN, ZE, ZG, ZH, Zy, Zj, Zw, Zm, Zo, Zb, Zc, Zn, Zz, ZA, ZI, ↓Zl, Zx, Zk, ZF, Zq, Zp, ZZ, ZD, Yk, put, lk, Od.v, Za, Zf, Zu, Yn, Yc, Yd, Ye, Yo, Yl, DV.isU, DV.cells, hget, ZO, Yb, ZP, Zv, splice, DV.one, ZQ, mat, Ya, Ym, g1]; exact ⟨rfl, rfl⟩)] | rw [ZR (by simp [lk, Za, Od.v, g1]; exact rfl)] | rw [Zq] | rw [Zp] | rw [ZJ] | rw [ZU] | rw [ZK] | rw [ZT] | rw [ZM] | rw [ZL] | rw [ZC] | rw [Zs] | rw [Zt] | rw [Zi (by decide)] | rw [Zr] | rw [Zg] | rw [Zh] | rw [Zd (by decide)] | rw [ZX] | rw [ZV (by simp [ZN, ZE, ZG, ZH, Zy, Zj, Zw, Zm, Zo, Zb, Zc, Zn, Zz, ZA, ZI, ↓Zl, Zx, Zk, ZF, Zq, Zp, ZZ, ZD, Yk, put, lk, Od.v, Za, Zf, Zu, Yn, Yc, Yd, Ye, Yo, Yl, DV.isU, DV.cells, hget, ZO, Yb, ZP, Zv, splice, DV.one, ZQ, mat, Ya, Ym, g1]; exact ⟨rfl, rfl⟩)] | rw [ZW (by simp [lk, Za, Od.v, g1]; exact rfl)] | rw [ZS]))
    simp [Yg, Yf, Yq, Za, lk, Zu, g3, Yn]
    exact hf
  · (repeat (first | rw [ZB] | rw [Ze (by simp [ZN, ZE, ZG, ZH, Zy, Zj, Zw, Zm, Zo, Zb, Zc, Zn, Zz, ZA, ZI, ↓Zl, Zx, Zk, ZF, Zq, Zp, ZZ, ZD, Yk, put, lk, Od.v, Za, Zf, Zu, Yn, Yc, Yd, Ye, Yo, Yl, DV.isU, DV.cells, hget, ZO, Yb, ZP, Zv, splice, DV.one, ZQ, mat, Ya, Ym, g1]; exact ⟨rfl, rfl⟩)] | rw [ZR (by simp [lk, Za, Od.v, g1]; exact rfl)] | rw [Zq] | rw [Zp] | rw [ZJ] | rw [ZU] | rw [ZK] | rw [ZT] | rw [ZM] | rw [ZL] | rw [ZC] | rw [Zs] | rw [Zt] | rw [Zi (by decide)] | rw [Zr] | rw [Zg] | rw [Zh] | rw [Zd (by decide)] | rw [ZX] | rw [ZV (by simp [ZN, ZE, ZG, ZH, Zy, Zj, Zw, Zm, Zo, Zb, Zc, Zn, Zz, ZA, ZI, ↓Zl, Zx, Zk, ZF, Zq, Zp, ZZ, ZD, Yk, put, lk, Od.v, Za, Zf, Zu, Yn, Yc, Yd, Ye, Yo, Yl, DV.isU, DV.cells, hget, ZO, Yb, ZP, Zv, splice, DV.one, ZQ, mat, Ya, Ym, g1]; exact ⟨rfl, rfl⟩)] | rw [ZW (by simp [lk, Za, Od.v, g1]; exact rfl)] | rw [ZS]))
    simp [Yg, Yf, Yq, Za, lk, Zu, g3, Yn]
    exact hf
end Go.Proofs.YtebjndbigoddnaaDoor
namespace Go.Proofs.YtebjndbigoddnaaDoor
attribute [local go_sem] ZN ZE ZG ZH Zy Zj Zw Zm Zo Zb Zc Zn Zz ZA ZI Zx Zk ZF Zq Zp ZZ ZD Yk put lk Od.v Za Zf Zu Yn Yc Yd Ye Yo Yl DV.isU DV.cells hget ZO Yb ZP Zv splice ZQ mat Ya Ym one_bool one_int one_str one_nilp one_ref one_elem one_nils one_list one_row one_nilm one_map one_nilf one_func one_nili one_ifc one_agg one_tup one_undef one_fresh
attribute [local go_sem ↓] Zl
set_option linter.unusedVariables false
set_option linter.unusedSimpArgs false
set_option maxRecDepth 10000
/-- A node. -/
structure N where
  ask : Int
  col : Int
  val : V
  a : Int
  b : Int
abbrev N.d (x : N) : DV := .agg [.int .i64 x.ask, .int .i64 x.col, .int .i64 x.val.k, .int .i64 x.val.n, .str x.val.s, .bool x.val.t, .int .i64 x.a, .int .i64 x.b]
/-- A row, that is only read. -/
def RowL (d : DV) (vs : List V) : Prop := (∃ c, d = .list 4 (vs.map V.d) c) ∨ (d = .nils ∧ vs = [])
theorem RowL.vw {d : DV} {vs : List V} (h : RowL d vs) (g : ZY) : vw g 4 d = some (vs.map V.d) := by
  rcases h with ⟨c, rfl⟩ | ⟨rfl, rfl⟩ <;> rfl
/-- Where numbers lie that are collected. -/
def MadeI (h : ZY) (H : ZY) (w : DV) (ws : List Nat) : Prop := (w = .nils ∧ ws = [] ∧ h = H) ∨ ∃ g, w = .row H.length g 0 ws.length false ∧ h = H ++ [.row 3 1 g (ws.map iD)]
theorem MadeI.vw {h H : ZY} {w : DV} {ws : List Nat} (hm : MadeI h H w ws) (L : ZY) : vw (h ++ L) 1 w = some (ws.map iD) := by
  rcases hm with ⟨rfl, rfl, rfl⟩ | ⟨g, rfl, rfl⟩
  · rfl
  · simp [Go.Proofs.YtebjndbigoddnaaDoor.vw, ZO, List.take_of_length_le]
theorem MadeI.app {h H : ZY} {w : DV} {ws : List Nat} (hm : MadeI h H w ws) (hb : ws.length ≤ 1000000) (x : Nat) : ∃ w' h', appx h 3 1 8 w (ws.map iD) [iD x] = some (w', h') ∧ MadeI h' H w' (ws ++ [x]) := by
  have hle : ((ws.map iD).length + [iD x].length) * 8 ≤ 140737488355328 := by simp; omega
  rcases hm with ⟨rfl, rfl, rfl⟩ | ⟨g, rfl, rfl⟩
  · exact ⟨_, _, by simp [appx], .inr ⟨0, rfl, rfl⟩⟩
  · refine ⟨.row H.length (g + 1) 0 (ws.length + 1) false, H ++ [.row 3 1 (g + 1) ((ws ++ [x]).map iD)], ?_, .inr ⟨g + 1, by simp, rfl⟩⟩
    simp only [appx, if_pos hle, ZO]
    simp [ZP]
theorem MadeI.ext {h H : ZY} {w : DV} {ws : List Nat} (hm : MadeI h H w ws) : ∃ L, h = H ++ L := by
  rcases hm with ⟨_, _, rfl⟩ | ⟨g, _, rfl⟩
  · exact ⟨[], by simp⟩
  · exact ⟨_, rfl⟩
theorem fin_wl {H h : ZY} {W : DV} {ws : List Nat} (hW : WL W ws) (ht : h.take H.length = H) : fin H h [.agg [W]] = (.agg [W], H) := by
  simp only [fin]
  rw [if_pos ht]
  rcases hW with rfl | ⟨rfl, rfl⟩ <;> simp [fz1, fzL, fz0]
structure DoneAt (H h : ZY) (D : DV) (ds : List DV) : Prop where
  pre : h.take H.length = H
  b6 : h[H.length]? = some (.box 30 [.nils])
  b7 : h[H.length + 1]? = some (.box 115 [D])
  row : (D = .nils ∧ ds = []) ∨ ∃ o g, D = .row o g 0 ds.length false ∧ H.length + 2 ≤ o ∧ h[o]? = some (.row 30 1 g ds)
theorem DoneAt.len {H h : ZY} {D : DV} {ds : List DV} (hD : DoneAt H h D ds) : H.length + 1 < h.length := (List.getElem?_eq_some_iff.1 hD.b7).1
theorem DoneAt.app {H h : ZY} {D : DV} {ds : List DV} (hD : DoneAt H h D ds) (L : ZY) : DoneAt H (h ++ L) D ds where
  pre := by have := hD.len; rw [List.take_append_of_le_length (by omega)]; exact hD.pre
  b6 := hle hD.b6 L
  b7 := hle hD.b7 L
  row := by
    rcases hD.row with h1 | ⟨o, g, h1, h2, h3⟩
    · exact .inl h1
    · exact .inr ⟨o, g, h1, h2, hle h3 L⟩
theorem DoneAt.vw {H h : ZY} {D : DV} {ds : List DV} (hD : DoneAt H h D ds) : vw h 1 D = some ds := by
  rcases hD.row with ⟨rfl, rfl⟩ | ⟨o, g, rfl, h2, h3⟩
  · rfl
  · simp [Go.Proofs.YtebjndbigoddnaaDoor.vw, h3, List.take_of_length_le]
theorem DoneAt.step {H h : ZY} {D : DV} {ds : List DV} (hD : DoneAt H h D ds) (hb : ds.length ≤ 1000000) (y : DV) : ∃ D' h2, appx h 30 1 24 D ds [y] = some (D', h2) ∧ h2[H.length + 1]? = some (.box 115 [D]) ∧ (∃ o g n, D' = .row o g 0 n false) ∧ DoneAt H (h2.set (H.length + 1) (.box 115 [D'])) D' (ds ++ [y]) := by
  have hle' : (ds.length + [y].length) * 24 ≤ 140737488355328 := by simp; omega
  have hl := hD.len
  have tk : ∀ (g : ZY) (i : Nat) (x : HO), H.length ≤ i → (g.set i x).take H.length = g.take H.length := by
    intro g i x hi
    rw [List.take_set, List.set_eq_of_length_le (by simp; omega)]
  rcases hD.row with ⟨rfl, rfl⟩ | ⟨o, g, rfl, h2, h3⟩
  · refine ⟨.row h.length 0 0 1 false, h ++ [.row 30 1 0 [y]], by simp [appx], hle hD.b7 _, ⟨_, _, _, rfl⟩, ?_, ?_, ?_, .inr ⟨h.length, 0, rfl, by omega, ?_⟩⟩
    · rw [tk _ _ _ (by omega)]; exact (hD.app _).pre
    · rw [List.getElem?_set_ne (by omega)]; exact hle hD.b6 _
    · exact List.getElem?_set_self (by simp; omega)
    · rw [List.getElem?_set_ne (by omega)]; simp
  · have ho : o < h.length := (List.getElem?_eq_some_iff.1 h3).1
    refine ⟨.row o (g + 1) 0 (ds.length + 1) false, h.set o (.row 30 1 (g + 1) (ds ++ [y])), ?_, ?_, ⟨_, _, _, rfl⟩, ?_, ?_, ?_, .inr ⟨o, g + 1, by simp, h2, ?_⟩⟩
    · simp only [appx, if_pos hle', h3]
      simp
    · rw [List.getElem?_set_ne (by omega)]; exact hD.b7
    · rw [tk _ _ _ (by omega), tk _ _ _ (by omega)]; exact hD.pre
    · rw [List.getElem?_set_ne (by omega), List.getElem?_set_ne (by omega)]; exact hD.b6
    · exact List.getElem?_set_self (by simp; omega)
    · rw [List.getElem?_set_ne (by omega)]; exact List.getElem?_set_self ho
/-- A heap that only grew. -/
def UpF (H h : ZY) : Prop := h.take H.length = H
theorem UpF.ex {H h : ZY} (u : UpF H h) : ∃ L, h = H ++ L := ⟨h.drop H.length, by
  have := List.take_append_drop H.length h
  rw [u] at this
  exact this.symm⟩
theorem V.nr (v : V) : Nr v.d := .agg (fun x hx => by
  simp at hx
  rcases hx with rfl | rfl | rfl | rfl
  · exact .int _ _
  · exact .int _ _
  · exact .str _
  · exact .bool _)
theorem RowL.nr {d : DV} {vs : List V} (h : RowL d vs) : Nr d := by
  rcases h with ⟨c, rfl⟩ | ⟨rfl, _⟩
  · exact .list (fun x hx => by obtain ⟨v, _, rfl⟩ := List.mem_map.1 hx; exact v.nr)
  · exact .nils
theorem wordOf_u {n : Nat} (h : n < 18446744073709551616) : wordOf (uD n) = some n := by
  simp [wordOf, uD]; omega
theorem wordsOf_u : ∀ {ws : List Nat}, WB ws → wordsOf (ws.map uD) = some ws
  | [], _ => rfl
  | w :: ws, h => by
    simp only [List.map_cons, wordsOf, wordOf_u (h w (List.mem_cons_self ..)), wordsOf_u (fun x hx => h x (List.mem_cons_of_mem _ hx))]
/-- What List hands back. -/
def listD (l : List Nat) : DV := if l = [] then .nils else .fresh 3 1 (l.map iD)
theorem run18 {W : DV} {ws : List Nat} (hW : WL W ws) (bw : WB ws) (hl : ws.length ≤ 1024) (H : ZY) : E X 18 [.agg [W], .int .i64 (-1)] H = some (listD (bitsOf ws 0), H) := by
  rw [E_ext (X := X) (g := gList) H rfl, gList]
  rw [hW.vw]
  dsimp only
  rw [wordsOf_u bw]
  dsimp only
  rw [if_pos ⟨by omega, rfl⟩]
  rfl
end Go.Proofs.YtebjndbigoddnaaDoor
namespace Go.Proofs.YtebjndbigoddnaaDoor
set_option linter.unusedVariables false
set_option linter.unusedSimpArgs false
set_option maxRecDepth 10000

end Go.Proofs.YtebjndbigoddnaaDoor
namespace Go.Proofs.YtebjndbigoddnaaDoor
attribute [local go_sem] ZN ZE ZG ZH Zy Zj Zw Zm Zo Zb Zc Zn Zz ZA ZI Zx Zk ZF Zq Zp ZZ ZD Yk put lk Od.v Za Zf Zu Yn Yc Yd Ye Yo Yl DV.isU DV.cells hget ZO Yb ZP Zv splice ZQ mat Ya Ym one_bool one_int one_str one_nilp one_ref one_elem one_nils one_list one_row one_nilm one_map one_nilf one_func one_nili one_ifc one_agg one_tup one_undef one_fresh
attribute [local go_sem ↓] Zl
set_option linter.unusedVariables false
set_option linter.unusedSimpArgs false
set_option maxRecDepth 10000
/-- The truths of the nodes ahead. -/
structure RefAt (H h : ZY) (n : Nat) (bl : List DV) (dn : List Bool) : Prop where
  pre : h.take H.length = H
  row : h[H.length]? = some (.row 4 1 0 bl)
  len : bl.length = n
  all : ∀ y ∈ bl, ∃ b, y = .bool b
  get : ∀ j, j < dn.length → bl[j]? = some (.bool (dn.getD j false))
theorem RefAt.len' {H h : ZY} {n : Nat} {bl : List DV} {dn : List Bool} (hR : RefAt H h n bl dn) : H.length < h.length := (List.getElem?_eq_some_iff.1 hR.row).1
theorem RefAt.vw {H h : ZY} {n : Nat} {bl : List DV} {dn : List Bool} (hR : RefAt H h n bl dn) (G : ZY) : vw (h ++ G) 1 (.row H.length 0 0 n false) = some bl := by
  have := hle hR.row G
  obtain rfl := hR.len
  simp [Go.Proofs.YtebjndbigoddnaaDoor.vw, this, List.take_of_length_le]
theorem RefAt.st {H h : ZY} {n : Nat} {bl : List DV} {dn : List Bool} (hR : RefAt H h n bl dn) (G : ZY) {i : Nat} (hi : i < n) (b : Bool) : stx (h ++ G) 1 (.elem (.row H.length 0 0 n false) 1 i 0) (.bool b) = some ((h ++ G).set H.length (.row 4 1 0 (bl.set i (.bool b)))) := by
  have h1 := hle hR.row G
  have hi' : i < bl.length := by rw [hR.len]; exact hi
  have h2 : bl[i]? = some bl[i] := List.getElem?_eq_getElem hi'
  rw [stx, if_pos (by simp [DV.cells, DV.one])]
  simp only [h1]
  rw [if_pos (by simp [hi, hR.len])]
  simp only [Nat.zero_add, h2]
  obtain ⟨b0, hb0⟩ := hR.all _ (List.getElem_mem hi')
  rw [hb0]
  simp [eput, DV.one]
theorem RefAt.next {H h : ZY} {n : Nat} {bl : List DV} {dn : List Bool} (hR : RefAt H h n bl dn) (G : ZY) (hi : dn.length < n) (b : Bool) : RefAt H ((h ++ G).set H.length (.row 4 1 0 (bl.set dn.length (.bool b)))) n (bl.set dn.length (.bool b)) (dn ++ [b]) where
  pre := by
    have := hR.len'
    rw [List.take_set, List.set_eq_of_length_le (by simp; omega), List.take_append_of_le_length (by omega)]
    exact hR.pre
  row := List.getElem?_set_self (by have := hR.len'; simp; omega)
  len := by simp [hR.len]
  all := by
    intro y hy
    rcases List.mem_or_eq_of_mem_set hy with hy | rfl
    · exact hR.all y hy
    · exact ⟨_, rfl⟩
  get := by
    intro j hj
    rw [List.length_append, List.length_singleton] at hj
    by_cases c : j = dn.length
    · subst c
      rw [List.getElem?_set_self (by rw [hR.len]; exact hi)]
      simp [List.getD]
    · rw [List.getElem?_set_ne (Ne.symm c), hR.get j (by omega)]
      simp [List.getD, List.getElem?_append_left (show j < dn.length by omega)]
section
variable {H1 : ZY} {L A R I6 : DV} {ds : List DV} {o : Nat} {ask col vk vn xa xb : Int} {vs' : ByteArray} {vt b8 b9 : Bool} {i : Nat}
end
end Go.Proofs.YtebjndbigoddnaaDoor
namespace Go.Proofs.YtebjndbigoddnaaDoor
set_option linter.unusedVariables false
set_option linter.unusedSimpArgs false
theorem at_out {ws : List Nat} {k : Nat} (h : ws.length ≤ k) : at_ ws k = 0 := by simp [at_, List.getD, List.getElem?_eq_none h]
theorem bit_out {ws : List Nat} {i : Nat} (h : 64 * ws.length ≤ i) : bit ws i = false := by
  rw [bit, at_out (by omega)]; simp
theorem at_pad (ws : List Nat) (n k : Nat) : at_ (padW ws n) k = at_ ws k := by
  simp only [at_, padW, List.getD]
  by_cases c : k < ws.length
  · rw [List.getElem?_append_left c]
  · rw [List.getElem?_append_right (by omega), List.getElem?_eq_none (l := ws) (by omega), List.getElem?_replicate]
    split <;> rfl
theorem bit_put (ws : List Nat) (x i : Nat) : bit (putW ws x) i = (bit ws i || decide (i = x)) := by
  have hl : x / 64 < (padW ws (x / 64 + 1)).length := by rw [padW_len]; omega
  simp only [bit, putW]
  by_cases c : i / 64 = x / 64
  · rw [c]
    have : at_ ((padW ws (x / 64 + 1)).set (x / 64) (at_ (padW ws (x / 64 + 1)) (x / 64) ||| 2 ^ (x % 64))) (x / 64) = at_ (padW ws (x / 64 + 1)) (x / 64) ||| 2 ^ (x % 64) := by
      simp only [at_, List.getD]
      rw [List.getElem?_set_self hl]; rfl
    rw [this, Nat.testBit_or, at_pad, Nat.testBit_two_pow]
    congr 1
    apply decide_eq_decide.2
    omega
  · have : at_ ((padW ws (x / 64 + 1)).set (x / 64) (at_ (padW ws (x / 64 + 1)) (x / 64) ||| 2 ^ (x % 64))) (i / 64) = at_ (padW ws (x / 64 + 1)) (i / 64) := by
      simp only [at_, List.getD]
      rw [List.getElem?_set_ne (by omega)]
    rw [this, at_pad]
    have : decide (i = x) = false := by simp; intro h; exact c (by rw [h])
    rw [this, Bool.or_false]
theorem bit_foldl : ∀ (l ws : List Nat) (i : Nat), bit (l.foldl putW ws) i = (bit ws i || decide (i ∈ l))
  | [], ws, i => by simp
  | x :: l, ws, i => by
    rw [List.foldl_cons, bit_foldl l, bit_put, Bool.or_assoc]
    congr 1
    simp
theorem bit_of (l : List Nat) (i : Nat) : bit (ofW l) i = decide (i ∈ l) := by
  rw [ofW, bit_foldl, bit_out (by simp)]; rfl
/-- The numbers of a set. -/
theorem bitsOf_bit (ws : List Nat) (i : Nat) (hi : i ≤ ws.length) : bitsOf (ws.take i) 0 = (List.range (64 * i)).filter (bit ws) := by
  induction i with
  | zero => simp [bitsOf]
  | succ i ih =>
    rw [bitsOf_take ws 0 i (by omega), ih (by omega), Nat.mul_succ, List.range_add, List.filter_append]
    congr 1
    simp only [wbits, List.filter_map, Nat.zero_add]
    have e1 : (List.range 64).filter (bit ws ∘ fun x => 64 * i + x) = (List.range 64).filter fun j => (at0 ws i).testBit j := by
      apply List.filter_congr
      intro j hj
      have hj' := List.mem_range.1 hj
      simp only [Function.comp, bit]
      rw [show (64 * i + j) / 64 = i by omega, show (64 * i + j) % 64 = j by omega]
      rfl
    rw [e1, Nat.mul_comm]
theorem bitsOf_sup {ws : List Nat} {n : Nat} (h : ∀ i, n ≤ i → bit ws i = false) : bitsOf ws 0 = (List.range n).filter (bit ws) := by
  have h1 := bitsOf_bit ws ws.length (Nat.le_refl _)
  rw [List.take_length] at h1
  rw [h1]
  have key : ∀ a b, (∀ i, a ≤ i → bit ws i = false) → (List.range (a + b)).filter (bit ws) = (List.range a).filter (bit ws) := by
    intro a b ha
    rw [List.range_add, List.filter_append]
    have : ((List.range b).map (a + ·)).filter (bit ws) = [] := by
      rw [List.filter_eq_nil_iff]
      intro y hy
      obtain ⟨z, _, rfl⟩ := List.mem_map.1 hy
      rw [ha _ (by omega)]; simp
    rw [this, List.append_nil]
  rcases Nat.le_total n (64 * ws.length) with c | c
  · obtain ⟨b, hb⟩ := Nat.le.dest c
    rw [← hb]; exact key n b h
  · obtain ⟨b, hb⟩ := Nat.le.dest c
    rw [← hb]; exact (key _ b (fun i hi => bit_out hi)).symm
end Go.Proofs.YtebjndbigoddnaaDoor
