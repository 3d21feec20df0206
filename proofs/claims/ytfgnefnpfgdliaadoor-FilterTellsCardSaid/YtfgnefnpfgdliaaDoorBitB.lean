/- Ideal runs: both, one of both, all below a number, all but some. -/
import Derived.Test.YtfgnefnpfgdliaaDoorBitA
namespace Go.Proofs.YtfgnefnpfgdliaaDoor
set_option linter.unusedVariables false
set_option linter.unusedSimpArgs false
set_option maxRecDepth 10000
def WB (ws : List Nat) : Prop := ∀ x ∈ ws, x < 18446744073709551616
theorem WB.at {ws : List Nat} (h : WB ws) (k : Nat) : at_ ws k < 18446744073709551616 := by
  unfold at_
  by_cases hk : k < ws.length
  · simp only [List.getD, List.getElem?_eq_getElem hk, Option.getD_some]; exact h _ (List.getElem_mem _)
  · simp [List.getD, List.getElem?_eq_none (Nat.le_of_not_lt hk)]
theorem or_n {a b : Nat} (ha : a < 18446744073709551616) (hb : b < 18446744073709551616) : IntKind.u64.wrap ((a % 2 ^ IntKind.u64.bits ||| b % 2 ^ IntKind.u64.bits : Nat) : Int) = ((a ||| b : Nat) : Int) := by
  rw [bits_u, Nat.mod_eq_of_lt ha, Nat.mod_eq_of_lt hb, wrapu, Nat.mod_eq_of_lt]
  exact Nat.or_lt_two_pow (n := 64) ha hb
theorem run38 {h : Heap} {p q : Nat} {W T : DV} {ws ts : List Nat} (hp : h[p]? = some (.box 34 [W])) (hq : h[q]? = some (.box 34 [T])) (hW : WL W ws) (hT : WL T ts) (bw : WB ws) (bt : WB ts) {k : Nat} (h1 : k < ws.length) (h2 : k < ts.length) :
    E X 38 [.int .i64 k, .ref p 0, .ref q 0] h = some (uD (at_ ws k &&& at_ ts k), h) := by
  have v1 := hW.vw
  have v2 := hT.vw
  have e1 : at_ ws k = ws[k] := by simp [at_, List.getD, List.getElem?_eq_getElem h1]
  have e2 : at_ ts k = ts[k] := by simp [at_, List.getD, List.getElem?_eq_getElem h2]
  have a1 := and_n (bw.at k) (bt.at k)
  rw [e1, e2] at a1
  rw [e1, e2]
  rw [E_go (X := X) _ b38 _ rfl rfl]; unfold b38; (repeat (first | rw [s_assoc] | rw [s_seq_reg (by simp [evOps, evOp_n, evOp_r, evOp_d, evOp_dr, kpo_refl, kpo_app, cnd_some, cnd_pair, cnd_cnd_t, cnd_cnd_f, cnd_same, cnd_dvb, cnd_and, cnd_or, ↓evx_pick, gd_bool, gd_boolf, gd_tup, cnd_t, cnd_f, evTo, isCall, evx, put, lk, Od.v, keepEnv, enterEnv, ldx_ref, rdc, binx, binI, binS, unx, eqk, DV.isU, DV.cells, hget, hget0, hset, hset0, stx_ref, splice, DV.one, fillp, mat, eqcs, eqs, hp, hq, v1, v2, h1, h2, ldx, a1]; exact ⟨rfl, rfl⟩)] | rw [s_cnd (by simp [lk, keepEnv, Od.v, hp, hq, v1, v2, h1, h2, ldx, a1]; exact rfl)] | rw [cnd_t] | rw [cnd_f] | rw [s_skip] | rw [s_ret] | rw [s_exit] | rw [C_ret] | rw [C_exit] | rw [C_skip] | rw [blk_ret] | rw [blk_norm] | rw [blk_exit] | rw [blk_exit' (by decide)] | rw [blkT_ret] | rw [blkT_norm] | rw [blkT_exit] | rw [blkT_exit' (by decide)] | rw [s_blk] | rw [s_reg (by simp [evOps, evOp_n, evOp_r, evOp_d, evOp_dr, kpo_refl, kpo_app, cnd_some, cnd_pair, cnd_cnd_t, cnd_cnd_f, cnd_same, cnd_dvb, cnd_and, cnd_or, ↓evx_pick, gd_bool, gd_boolf, gd_tup, cnd_t, cnd_f, evTo, isCall, evx, put, lk, Od.v, keepEnv, enterEnv, ldx_ref, rdc, binx, binI, binS, unx, eqk, DV.isU, DV.cells, hget, hget0, hset, hset0, stx_ref, splice, DV.one, fillp, mat, eqcs, eqs, hp, hq, v1, v2, h1, h2, ldx, a1]; exact ⟨rfl, rfl⟩)] | rw [t_cnd (by simp [lk, keepEnv, Od.v, hp, hq, v1, v2, h1, h2, ldx, a1]; exact rfl)] | rw [t_blk])); simp [ends_ret, ends_norm, resL, evOps, evOp_n, evOp_r, evOp_d, evOp_dr, kpo_refl, kpo_app, cnd_some, cnd_pair, cnd_cnd_t, cnd_cnd_f, cnd_same, cnd_dvb, cnd_and, cnd_or, ↓evx_pick, gd_bool, gd_boolf, gd_tup, cnd_t, cnd_f, evTo, isCall, evx, put, lk, Od.v, keepEnv, enterEnv, ldx_ref, rdc, binx, binI, binS, unx, eqk, DV.isU, DV.cells, hget, hget0, hset, hset0, stx_ref, splice, DV.one, fillp, mat, eqcs, eqs, fin, fz0, fz1, fzT, fzL, nlt, hp, hq, v1, v2, h1, h2, ldx, a1]
theorem run39 {h : Heap} {p q : Nat} {W T : DV} {ws ts : List Nat} (hp : h[p]? = some (.box 34 [W])) (hq : h[q]? = some (.box 34 [T])) (hW : WL W ws) (hT : WL T ts) (bw : WB ws) (bt : WB ts) (k : Nat) :
    E X 39 [.int .i64 k, .ref p 0, .ref q 0] h = some (uD (at_ ws k ||| at_ ts k), h) := by
  have e1 := run36 hW k
  have e2 := run36 hT k
  have a1 := or_n (bw.at k) (bt.at k)
  rw [E_go (X := X) _ b39 _ rfl rfl]; unfold b39; (repeat (first | rw [s_assoc] | rw [s_seq_reg (by simp [evOps, evOp_n, evOp_r, evOp_d, evOp_dr, kpo_refl, kpo_app, cnd_some, cnd_pair, cnd_cnd_t, cnd_cnd_f, cnd_same, cnd_dvb, cnd_and, cnd_or, ↓evx_pick, gd_bool, gd_boolf, gd_tup, cnd_t, cnd_f, evTo, isCall, evx, put, lk, Od.v, keepEnv, enterEnv, ldx_ref, rdc, binx, binI, binS, unx, eqk, DV.isU, DV.cells, hget, hget0, hset, hset0, stx_ref, splice, DV.one, fillp, mat, eqcs, eqs, hp, hq, e1, e2, a1]; exact ⟨rfl, rfl⟩)] | rw [s_cnd (by simp [lk, keepEnv, Od.v, hp, hq, e1, e2, a1]; exact rfl)] | rw [cnd_t] | rw [cnd_f] | rw [s_skip] | rw [s_ret] | rw [s_exit] | rw [C_ret] | rw [C_exit] | rw [C_skip] | rw [blk_ret] | rw [blk_norm] | rw [blk_exit] | rw [blk_exit' (by decide)] | rw [blkT_ret] | rw [blkT_norm] | rw [blkT_exit] | rw [blkT_exit' (by decide)] | rw [s_blk] | rw [s_reg (by simp [evOps, evOp_n, evOp_r, evOp_d, evOp_dr, kpo_refl, kpo_app, cnd_some, cnd_pair, cnd_cnd_t, cnd_cnd_f, cnd_same, cnd_dvb, cnd_and, cnd_or, ↓evx_pick, gd_bool, gd_boolf, gd_tup, cnd_t, cnd_f, evTo, isCall, evx, put, lk, Od.v, keepEnv, enterEnv, ldx_ref, rdc, binx, binI, binS, unx, eqk, DV.isU, DV.cells, hget, hget0, hset, hset0, stx_ref, splice, DV.one, fillp, mat, eqcs, eqs, hp, hq, e1, e2, a1]; exact ⟨rfl, rfl⟩)] | rw [t_cnd (by simp [lk, keepEnv, Od.v, hp, hq, e1, e2, a1]; exact rfl)] | rw [t_blk])); simp [ends_ret, ends_norm, resL, evOps, evOp_n, evOp_r, evOp_d, evOp_dr, kpo_refl, kpo_app, cnd_some, cnd_pair, cnd_cnd_t, cnd_cnd_f, cnd_same, cnd_dvb, cnd_and, cnd_or, ↓evx_pick, gd_bool, gd_boolf, gd_tup, cnd_t, cnd_f, evTo, isCall, evx, put, lk, Od.v, keepEnv, enterEnv, ldx_ref, rdc, binx, binI, binS, unx, eqk, DV.isU, DV.cells, hget, hget0, hset, hset0, stx_ref, splice, DV.one, fillp, mat, eqcs, eqs, fin, fz0, fz1, fzT, fzL, nlt, hp, hq, e1, e2, a1]
/-- A set, as a value. -/
def SetD (d : DV) (ws : List Nat) : Prop := (∃ W, d = .agg [W] ∧ WL W ws) ∧ WB ws
def andW (ws ts : List Nat) : List Nat := (List.range (min ws.length ts.length)).map fun k => at_ ws k &&& at_ ts k
def orW (ws ts : List Nat) : List Nat := (List.range (max ws.length ts.length)).map fun k => at_ ws k ||| at_ ts k
theorem mm_min (a b : Nat) : mm false .i64 (a : Int) [.int .i64 (b : Int)] = some ((min a b : Nat) : Int) := by
  simp only [mm]
  by_cases h : (b : Int) < a
  · simp [h]; omega
  · simp [h]; omega
theorem mm_max (a b : Nat) : mm true .i64 (a : Int) [.int .i64 (b : Int)] = some ((max a b : Nat) : Int) := by
  simp only [mm]
  by_cases h : (a : Int) < b
  · simp [h]; omega
  · simp [h]; omega
theorem fin_set {H l : Heap} {ws : List Nat} : fin H (H ++ l) [.agg [.list 1 (ws.map uD) false]] = (.agg [.list 1 (ws.map uD) false], H) := by
  simp only [fin]
  rw [if_pos List.take_left]
  simp [fz1, fzL, fz0]
theorem run19 {W T : DV} {ws ts : List Nat} (hW : WL W ws) (hT : WL T ts) (bw : WB ws) (bt : WB ts) (hb : ws.length ≤ 1000000) (H : Heap) : E X 19 [.agg [W], .agg [T]] H = some (.agg [.list 1 ((andW ws ts).map uD) false], H) := by
  have v1 := hW.vw
  have v2 := hT.vw
  have e1 := run37 (H := H ++ [HO.box 34 [W], HO.box 34 [T], HO.box 34 [.nils]]) (f := 38) (n := min ws.length ts.length) (cap := [.ref H.length 0, .ref (H.length + 1) 0]) (word := fun k => at_ ws k &&& at_ ts k) (by omega) (fun k hk l => run38 (by simp) (by simp [hget]) hW hT bw bt (by omega) (by omega))
  have e2 := mm_min ws.length ts.length
  generalize hM : min ws.length ts.length = M at e1 e2
  have hdef : andW ws ts = (List.range M).map fun k => at_ ws k &&& at_ ts k := by rw [andW, hM]
  rw [← hdef] at e1
  generalize andW ws ts = us at e1 ⊢
  rw [E_go (X := X) _ b19 _ rfl rfl]; unfold b19
  (repeat (first | rw [s_assoc] | rw [s_seq_reg (by simp [evOps, evOp_n, evOp_r, evOp_d, evOp_dr, kpo_refl, kpo_app, cnd_some, cnd_pair, cnd_cnd_t, cnd_cnd_f, cnd_same, cnd_dvb, cnd_and, cnd_or, ↓evx_pick, gd_bool, gd_boolf, gd_tup, cnd_t, cnd_f, evTo, isCall, evx, put, lk, Od.v, keepEnv, enterEnv, ldx_ref, rdc, binx, binI, binS, unx, eqk, DV.isU, DV.cells, hget, hget0, hset, hset0, stx_ref, splice, DV.one, fillp, mat, eqcs, eqs, v1, v2, e1, e2]; exact ⟨rfl, rfl⟩)] | rw [s_cnd (by simp [lk, keepEnv, Od.v, v1, v2, e1, e2]; exact rfl)] | rw [cnd_t] | rw [cnd_f] | rw [s_skip] | rw [s_ret] | rw [s_exit] | rw [C_ret] | rw [C_exit] | rw [C_skip] | rw [blk_ret] | rw [blk_norm] | rw [blk_exit] | rw [blk_exit' (by decide)] | rw [blkT_ret] | rw [blkT_norm] | rw [blkT_exit] | rw [blkT_exit' (by decide)] | rw [s_blk] | rw [s_reg (by simp [evOps, evOp_n, evOp_r, evOp_d, evOp_dr, kpo_refl, kpo_app, cnd_some, cnd_pair, cnd_cnd_t, cnd_cnd_f, cnd_same, cnd_dvb, cnd_and, cnd_or, ↓evx_pick, gd_bool, gd_boolf, gd_tup, cnd_t, cnd_f, evTo, isCall, evx, put, lk, Od.v, keepEnv, enterEnv, ldx_ref, rdc, binx, binI, binS, unx, eqk, DV.isU, DV.cells, hget, hget0, hset, hset0, stx_ref, splice, DV.one, fillp, mat, eqcs, eqs, v1, v2, e1, e2]; exact ⟨rfl, rfl⟩)] | rw [t_cnd (by simp [lk, keepEnv, Od.v, v1, v2, e1, e2]; exact rfl)] | rw [t_blk]))
  simp [ends_norm, ends_ret, resL, keepEnv, lk, ldx_ref, hget, hget0, hset, rdc]
  exact fin_set
theorem run20 {W T : DV} {ws ts : List Nat} (hW : WL W ws) (hT : WL T ts) (bw : WB ws) (bt : WB ts) (hb : ws.length ≤ 1000000) (hb' : ts.length ≤ 1000000) (H : Heap) : E X 20 [.agg [W], .agg [T]] H = some (.agg [.list 1 ((orW ws ts).map uD) false], H) := by
  have v1 := hW.vw
  have v2 := hT.vw
  have e1 := run37 (H := H ++ [HO.box 34 [W], HO.box 34 [T], HO.box 34 [.nils]]) (f := 39) (n := max ws.length ts.length) (cap := [.ref H.length 0, .ref (H.length + 1) 0]) (word := fun k => at_ ws k ||| at_ ts k) (by omega) (fun k hk l => run39 (by simp) (by simp [hget]) hW hT bw bt k)
  have e2 := mm_max ws.length ts.length
  generalize hM : max ws.length ts.length = M at e1 e2
  have hdef : orW ws ts = (List.range M).map fun k => at_ ws k ||| at_ ts k := by rw [orW, hM]
  rw [← hdef] at e1
  generalize orW ws ts = us at e1 ⊢
  rw [E_go (X := X) _ b20 _ rfl rfl]; unfold b20
  (repeat (first | rw [s_assoc] | rw [s_seq_reg (by simp [evOps, evOp_n, evOp_r, evOp_d, evOp_dr, kpo_refl, kpo_app, cnd_some, cnd_pair, cnd_cnd_t, cnd_cnd_f, cnd_same, cnd_dvb, cnd_and, cnd_or, ↓evx_pick, gd_bool, gd_boolf, gd_tup, cnd_t, cnd_f, evTo, isCall, evx, put, lk, Od.v, keepEnv, enterEnv, ldx_ref, rdc, binx, binI, binS, unx, eqk, DV.isU, DV.cells, hget, hget0, hset, hset0, stx_ref, splice, DV.one, fillp, mat, eqcs, eqs, v1, v2, e1, e2]; exact ⟨rfl, rfl⟩)] | rw [s_cnd (by simp [lk, keepEnv, Od.v, v1, v2, e1, e2]; exact rfl)] | rw [cnd_t] | rw [cnd_f] | rw [s_skip] | rw [s_ret] | rw [s_exit] | rw [C_ret] | rw [C_exit] | rw [C_skip] | rw [blk_ret] | rw [blk_norm] | rw [blk_exit] | rw [blk_exit' (by decide)] | rw [blkT_ret] | rw [blkT_norm] | rw [blkT_exit] | rw [blkT_exit' (by decide)] | rw [s_blk] | rw [s_reg (by simp [evOps, evOp_n, evOp_r, evOp_d, evOp_dr, kpo_refl, kpo_app, cnd_some, cnd_pair, cnd_cnd_t, cnd_cnd_f, cnd_same, cnd_dvb, cnd_and, cnd_or, ↓evx_pick, gd_bool, gd_boolf, gd_tup, cnd_t, cnd_f, evTo, isCall, evx, put, lk, Od.v, keepEnv, enterEnv, ldx_ref, rdc, binx, binI, binS, unx, eqk, DV.isU, DV.cells, hget, hget0, hset, hset0, stx_ref, splice, DV.one, fillp, mat, eqcs, eqs, v1, v2, e1, e2]; exact ⟨rfl, rfl⟩)] | rw [t_cnd (by simp [lk, keepEnv, Od.v, v1, v2, e1, e2]; exact rfl)] | rw [t_blk]))
  simp [ends_norm, ends_ret, resL, keepEnv, lk, ldx_ref, hget, hget0, hset, rdc]
  exact fin_set
/-- The words of all below n. -/
def uptoW (n : Nat) : List Nat := (List.range ((n + 63) / 64)).map fun k => if k * 64 + 64 ≤ n then 18446744073709551615 else 2 ^ (n - k * 64) - 1
theorem run62 {h : Heap} {q n : Nat} (hq : h[q]? = some (.box 3 [.int .i64 n])) (hn : n ≤ 65536) {k : Nat} (hk : k < (n + 63) / 64) : E X 62 [.int .i64 k, .ref q 0] h = some (uD (if k * 64 + 64 ≤ n then 18446744073709551615 else 2 ^ (n - k * 64) - 1), h) := by
  obtain ⟨K, hK⟩ : ∃ K, K = k * 64 := ⟨_, rfl⟩
  obtain ⟨D, hD⟩ : ∃ D, D = n - K := ⟨_, rfl⟩
  have w1 : IntKind.i64.wrap ((k : Int) * 64) = (K : Int) := (by rw [wrap64 _ (by omega) (by omega)]; omega)
  have w2 : IntKind.i64.wrap ((n : Int) - K) = (D : Int) := (by rw [wrap64 _ (by omega) (by omega)]; omega)
  rw [← hK, ← hD]
  by_cases c : 64 ≤ D
  · have c' : (64 : Int) ≤ D := by omega
    have c2 : K + 64 ≤ n := by omega
    rw [if_pos c2]
    rw [E_go (X := X) _ b62 _ rfl rfl]; unfold b62; (repeat (first | rw [s_assoc] | rw [s_seq_reg (by simp [evOps, evOp_n, evOp_r, evOp_d, evOp_dr, kpo_refl, kpo_app, cnd_some, cnd_pair, cnd_cnd_t, cnd_cnd_f, cnd_same, cnd_dvb, cnd_and, cnd_or, ↓evx_pick, gd_bool, gd_boolf, gd_tup, cnd_t, cnd_f, evTo, isCall, evx, put, lk, Od.v, keepEnv, enterEnv, ldx_ref, rdc, binx, binI, binS, unx, eqk, DV.isU, DV.cells, hget, hget0, hset, hset0, stx_ref, splice, DV.one, fillp, mat, eqcs, eqs, hq, w1, w2, c, c']; exact ⟨rfl, rfl⟩)] | rw [s_cnd (by simp [lk, keepEnv, Od.v, hq, w1, w2, c, c']; exact rfl)] | rw [cnd_t] | rw [cnd_f] | rw [s_skip] | rw [s_ret] | rw [s_exit] | rw [C_ret] | rw [C_exit] | rw [C_skip] | rw [blk_ret] | rw [blk_norm] | rw [blk_exit] | rw [blk_exit' (by decide)] | rw [blkT_ret] | rw [blkT_norm] | rw [blkT_exit] | rw [blkT_exit' (by decide)] | rw [s_blk] | rw [s_reg (by simp [evOps, evOp_n, evOp_r, evOp_d, evOp_dr, kpo_refl, kpo_app, cnd_some, cnd_pair, cnd_cnd_t, cnd_cnd_f, cnd_same, cnd_dvb, cnd_and, cnd_or, ↓evx_pick, gd_bool, gd_boolf, gd_tup, cnd_t, cnd_f, evTo, isCall, evx, put, lk, Od.v, keepEnv, enterEnv, ldx_ref, rdc, binx, binI, binS, unx, eqk, DV.isU, DV.cells, hget, hget0, hset, hset0, stx_ref, splice, DV.one, fillp, mat, eqcs, eqs, hq, w1, w2, c, c']; exact ⟨rfl, rfl⟩)] | rw [t_cnd (by simp [lk, keepEnv, Od.v, hq, w1, w2, c, c']; exact rfl)] | rw [t_blk])); simp [ends_ret, ends_norm, resL, evOps, evOp_n, evOp_r, evOp_d, evOp_dr, kpo_refl, kpo_app, cnd_some, cnd_pair, cnd_cnd_t, cnd_cnd_f, cnd_same, cnd_dvb, cnd_and, cnd_or, ↓evx_pick, gd_bool, gd_boolf, gd_tup, cnd_t, cnd_f, evTo, isCall, evx, put, lk, Od.v, keepEnv, enterEnv, ldx_ref, rdc, binx, binI, binS, unx, eqk, DV.isU, DV.cells, hget, hget0, hset, hset0, stx_ref, splice, DV.one, fillp, mat, eqcs, eqs, fin, fz0, fz1, fzT, fzL, nlt, hq, w1, w2, c, c']
  · have c' : ¬ (64 : Int) ≤ D := by omega
    have c2 : ¬ K + 64 ≤ n := by omega
    rw [if_neg c2]
    have c3 : ¬ (D : Int) < 0 := by omega
    obtain ⟨P, hP⟩ : ∃ P, P = 2 ^ D := ⟨_, rfl⟩
    have hPp : 1 ≤ P := by rw [hP]; exact Nat.one_le_two_pow
    have hPl : P < 18446744073709551616 := by rw [hP]; exact Nat.pow_lt_pow_right (by omega : 1 < 2) (by omega : D < 64)
    have w3 : IntKind.u64.wrap (2 ^ min D IntKind.u64.bits) = (P : Int) := by
      rw [show min D IntKind.u64.bits = D from Nat.min_eq_left (by simp [IntKind.bits]; omega), show (2 : Int) ^ D = ((P : Nat) : Int) by rw [hP]; simp, wrapu, Nat.mod_eq_of_lt hPl]
    have w4 : IntKind.u64.wrap ((P : Int) - 1) = ((P - 1 : Nat) : Int) := by
      rw [show (P : Int) - 1 = ((P - 1 : Nat) : Int) by omega, wrapu, Nat.mod_eq_of_lt (by omega)]
    rw [← hP]
    obtain ⟨Q, hQ⟩ : ∃ Q, Q = P - 1 := ⟨_, rfl⟩
    rw [← hQ] at w4 ⊢
    rw [E_go (X := X) _ b62 _ rfl rfl]; unfold b62; (repeat (first | rw [s_assoc] | rw [s_seq_reg (by simp [evOps, evOp_n, evOp_r, evOp_d, evOp_dr, kpo_refl, kpo_app, cnd_some, cnd_pair, cnd_cnd_t, cnd_cnd_f, cnd_same, cnd_dvb, cnd_and, cnd_or, ↓evx_pick, gd_bool, gd_boolf, gd_tup, cnd_t, cnd_f, evTo, isCall, evx, put, lk, Od.v, keepEnv, enterEnv, ldx_ref, rdc, binx, binI, binS, unx, eqk, DV.isU, DV.cells, hget, hget0, hset, hset0, stx_ref, splice, DV.one, fillp, mat, eqcs, eqs, hq, w1, w2, w3, w4, c, c', c3]; exact ⟨rfl, rfl⟩)] | rw [s_cnd (by simp [lk, keepEnv, Od.v, hq, w1, w2, w3, w4, c, c', c3]; exact rfl)] | rw [cnd_t] | rw [cnd_f] | rw [s_skip] | rw [s_ret] | rw [s_exit] | rw [C_ret] | rw [C_exit] | rw [C_skip] | rw [blk_ret] | rw [blk_norm] | rw [blk_exit] | rw [blk_exit' (by decide)] | rw [blkT_ret] | rw [blkT_norm] | rw [blkT_exit] | rw [blkT_exit' (by decide)] | rw [s_blk] | rw [s_reg (by simp [evOps, evOp_n, evOp_r, evOp_d, evOp_dr, kpo_refl, kpo_app, cnd_some, cnd_pair, cnd_cnd_t, cnd_cnd_f, cnd_same, cnd_dvb, cnd_and, cnd_or, ↓evx_pick, gd_bool, gd_boolf, gd_tup, cnd_t, cnd_f, evTo, isCall, evx, put, lk, Od.v, keepEnv, enterEnv, ldx_ref, rdc, binx, binI, binS, unx, eqk, DV.isU, DV.cells, hget, hget0, hset, hset0, stx_ref, splice, DV.one, fillp, mat, eqcs, eqs, hq, w1, w2, w3, w4, c, c', c3]; exact ⟨rfl, rfl⟩)] | rw [t_cnd (by simp [lk, keepEnv, Od.v, hq, w1, w2, w3, w4, c, c', c3]; exact rfl)] | rw [t_blk])); simp [ends_ret, ends_norm, resL, evOps, evOp_n, evOp_r, evOp_d, evOp_dr, kpo_refl, kpo_app, cnd_some, cnd_pair, cnd_cnd_t, cnd_cnd_f, cnd_same, cnd_dvb, cnd_and, cnd_or, ↓evx_pick, gd_bool, gd_boolf, gd_tup, cnd_t, cnd_f, evTo, isCall, evx, put, lk, Od.v, keepEnv, enterEnv, ldx_ref, rdc, binx, binI, binS, unx, eqk, DV.isU, DV.cells, hget, hget0, hset, hset0, stx_ref, splice, DV.one, fillp, mat, eqcs, eqs, fin, fz0, fz1, fzT, fzL, nlt, hq, w1, w2, w3, w4, c, c', c3]
theorem mm_clamp (n : Nat) : mm true .i64 (n : Int) [.int .i64 0] = some (n : Int) := by
  have h : ¬ (n : Int) < 0 := by omega
  simp [mm, h]
theorem mm_clamp2 (n : Nat) (hn : n ≤ 65536) : mm false .i64 (n : Int) [.int .i64 65536] = some (n : Int) := by
  have h : ¬ (65536 : Int) < n := by omega
  simp [mm, h]
theorem run40 (n : Nat) (hn : n ≤ 65536) (H : Heap) : E X 40 [.int .i64 n] H = some (.agg [.list 1 ((uptoW n).map uD) false], H) := by
  have m1 := mm_clamp n
  have m2 := mm_clamp2 n hn
  obtain ⟨a, ha⟩ : ∃ a, a = n + 64 := ⟨_, rfl⟩
  obtain ⟨b, hb⟩ : ∃ b, b = n + 63 := ⟨_, rfl⟩
  obtain ⟨c, hc⟩ : ∃ c, c = (n + 63) / 64 := ⟨_, rfl⟩
  have w1 : IntKind.i64.wrap ((n : Int) + 64) = (a : Int) := (by rw [wrap64 _ (by omega) (by omega)]; omega)
  have w2 : IntKind.i64.wrap ((a : Int) - 1) = (b : Int) := (by rw [wrap64 _ (by omega) (by omega)]; omega)
  have w3 : IntKind.i64.wrap ((b : Int) / 64) = (c : Int) := (by rw [wrap64 _ (by omega) (by omega)]; omega)
  have e1 := run37 (H := H ++ [HO.box 3 [.int .i64 n], HO.box 34 [.nils]]) (f := 62) (n := c) (cap := [.ref H.length 0]) (word := fun k => if k * 64 + 64 ≤ n then 18446744073709551615 else 2 ^ (n - k * 64) - 1) (by omega) (fun k hk l => run62 (by simp) hn (by rw [← hc]; exact hk))
  have hdef : uptoW n = (List.range c).map fun k => if k * 64 + 64 ≤ n then 18446744073709551615 else 2 ^ (n - k * 64) - 1 := by rw [uptoW, hc]
  rw [← hdef] at e1
  generalize uptoW n = us at e1 ⊢
  rw [E_go (X := X) _ b40 _ rfl rfl]; unfold b40
  (repeat (first | rw [s_assoc] | rw [s_seq_reg (by simp [evOps, evOp_n, evOp_r, evOp_d, evOp_dr, kpo_refl, kpo_app, cnd_some, cnd_pair, cnd_cnd_t, cnd_cnd_f, cnd_same, cnd_dvb, cnd_and, cnd_or, ↓evx_pick, gd_bool, gd_boolf, gd_tup, cnd_t, cnd_f, evTo, isCall, evx, put, lk, Od.v, keepEnv, enterEnv, ldx_ref, rdc, binx, binI, binS, unx, eqk, DV.isU, DV.cells, hget, hget0, hset, hset0, stx_ref, splice, DV.one, fillp, mat, eqcs, eqs, m1, m2, w1, w2, w3, e1]; exact ⟨rfl, rfl⟩)] | rw [s_cnd (by simp [lk, keepEnv, Od.v, m1, m2, w1, w2, w3, e1]; exact rfl)] | rw [cnd_t] | rw [cnd_f] | rw [s_skip] | rw [s_ret] | rw [s_exit] | rw [C_ret] | rw [C_exit] | rw [C_skip] | rw [blk_ret] | rw [blk_norm] | rw [blk_exit] | rw [blk_exit' (by decide)] | rw [blkT_ret] | rw [blkT_norm] | rw [blkT_exit] | rw [blkT_exit' (by decide)] | rw [s_blk] | rw [s_reg (by simp [evOps, evOp_n, evOp_r, evOp_d, evOp_dr, kpo_refl, kpo_app, cnd_some, cnd_pair, cnd_cnd_t, cnd_cnd_f, cnd_same, cnd_dvb, cnd_and, cnd_or, ↓evx_pick, gd_bool, gd_boolf, gd_tup, cnd_t, cnd_f, evTo, isCall, evx, put, lk, Od.v, keepEnv, enterEnv, ldx_ref, rdc, binx, binI, binS, unx, eqk, DV.isU, DV.cells, hget, hget0, hset, hset0, stx_ref, splice, DV.one, fillp, mat, eqcs, eqs, m1, m2, w1, w2, w3, e1]; exact ⟨rfl, rfl⟩)] | rw [t_cnd (by simp [lk, keepEnv, Od.v, m1, m2, w1, w2, w3, e1]; exact rfl)] | rw [t_blk]))
  simp [ends_norm, ends_ret, resL, keepEnv, lk, ldx_ref, hget, hget0, hset, rdc]
  exact fin_set
theorem uptoW_WB (n : Nat) : WB (uptoW n) := by
  intro x hx
  simp only [uptoW, List.mem_map, List.mem_range] at hx
  obtain ⟨k, hk, rfl⟩ := hx
  split
  · omega
  · rename_i h
    have : 2 ^ (n - k * 64) ≤ 2 ^ 63 := Nat.pow_le_pow_right (by omega) (by omega)
    omega
end Go.Proofs.YtfgnefnpfgdliaaDoor
