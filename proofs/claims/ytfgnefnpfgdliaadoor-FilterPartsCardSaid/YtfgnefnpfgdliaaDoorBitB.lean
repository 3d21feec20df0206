/- Ideal runs: both, one of both, all below a number, all but some. Ideal runs: all but some; is a number in a set. Ideal runs: the set of some numbers. -/
import Derived.Test.YtfgnefnpfgdliaaDoorBitA
namespace Go.Proofs.YtfgnefnpfgdliaaDoor
set_option linter.unusedVariables false
set_option linter.unusedSimpArgs false
set_option maxRecDepth 10000
def WB (ws : List Nat) : Prop := ∀ x ∈ ws, x < 18446744073709551616
theorem WB.at {ws : List Nat} (h : WB ws) (k : Nat) : at_ ws k < 18446744073709551616 := by
  unfold at_
  by_cases hk : k < ws.length
  · simp only [List.getD, List.getElem?_eq_getElem hk, Option.getD_some]; exact h _ (List.getElem_mem _)
  · simp [List.getD, List.getElem?_eq_none (Nat.le_of_not_lt hk)]
theorem or_n {a b : Nat} (ha : a < 18446744073709551616) (hb : b < 18446744073709551616) : IntKind.u64.wrap ((a % 2 ^ IntKind.u64.bits ||| b % 2 ^ IntKind.u64.bits : Nat) : Int) = ((a ||| b : Nat) : Int) := by
  rw [bits_u, Nat.mod_eq_of_lt ha, Nat.mod_eq_of_lt hb, wrapu, Nat.mod_eq_of_lt]
  exact Nat.or_lt_two_pow (n := 64) ha hb
theorem run38 {h : Heap} {p q : Nat} {W T : DV} {ws ts : List Nat} (hp : h[p]? = some (.box 34 [W])) (hq : h[q]? = some (.box 34 [T])) (hW : WL W ws) (hT : WL T ts) (bw : WB ws) (bt : WB ts) {k : Nat} (h1 : k < ws.length) (h2 : k < ts.length) :
    E X 38 [.int .i64 k, .ref p 0, .ref q 0] h = some (uD (at_ ws k &&& at_ ts k), h) := by
  have v1 := hW.vw
  have v2 := hT.vw
  have e1 : at_ ws k = ws[k] := by simp [at_, List.getD, List.getElem?_eq_getElem h1]
  have e2 : at_ ts k = ts[k] := by simp [at_, List.getD, List.getElem?_eq_getElem h2]
  have a1 := and_n (bw.at k) (bt.at k)
  rw [e1, e2] at a1
  rw [e1, e2]
  rw [E_go (X := X) _ b38 _ rfl rfl]; unfold b38; (repeat (first | rw [s_assoc] | rw [s_seq_reg (by simp [evOps, evOp_n, evOp_r, evOp_d, evOp_dr, kpo_refl, kpo_app, cnd_some, cnd_pair, cnd_cnd_t, cnd_cnd_f, cnd_same, cnd_dvb, cnd_and, cnd_or, ↓evx_pick, gd_bool, gd_boolf, gd_tup, cnd_t, cnd_f, evTo, isCall, evx, put, lk, Od.v, keepEnv, enterEnv, ldx_ref, rdc, binx, binI, binS, unx, eqk, DV.isU, DV.cells, hget, hget0, hset, hset0, stx_ref, splice, DV.one, fillp, mat, eqcs, eqs, hp, hq, v1, v2, h1, h2, ldx, a1]; exact ⟨rfl, rfl⟩)] | rw [s_cnd (by simp [lk, keepEnv, Od.v, hp, hq, v1, v2, h1, h2, ldx, a1]; exact rfl)] | rw [cnd_t] | rw [cnd_f] | rw [s_skip] | rw [s_ret] | rw [s_exit] | rw [C_ret] | rw [C_exit] | rw [C_skip] | rw [blk_ret] | rw [blk_norm] | rw [blk_exit] | rw [blk_exit' (by decide)] | rw [blkT_ret] | rw [blkT_norm] | rw [blkT_exit] | rw [blkT_exit' (by decide)] | rw [s_blk] | rw [s_reg (by simp [evOps, evOp_n, evOp_r, evOp_d, evOp_dr, kpo_refl, kpo_app, cnd_some, cnd_pair, cnd_cnd_t, cnd_cnd_f, cnd_same, cnd_dvb, cnd_and, cnd_or, ↓evx_pick, gd_bool, gd_boolf, gd_tup, cnd_t, cnd_f, evTo, isCall, evx, put, lk, Od.v, keepEnv, enterEnv, ldx_ref, rdc, binx, binI, binS, unx, eqk, DV.isU, DV.cells, hget, hget0, hset, hset0, stx_ref, splice, DV.one, fillp, mat, eqcs, eqs, hp, hq, v1, v2, h1, h2, ldx, a1]; exact ⟨rfl, rfl⟩)] | rw [t_cnd (by simp [lk, keepEnv, Od.v, hp, hq, v1, v2, h1, h2, ldx, a1]; exact rfl)] | rw [t_blk])); simp [ends_ret, ends_norm, resL, evOps, evOp_n, evOp_r, evOp_d, evOp_dr, kpo_refl, kpo_app, cnd_some, cnd_pair, cnd_cnd_t, cnd_cnd_f, cnd_same, cnd_dvb, cnd_and, cnd_or, ↓evx_pick, gd_bool, gd_boolf, gd_tup, cnd_t, cnd_f, evTo, isCall, evx, put, lk, Od.v, keepEnv, enterEnv, ldx_ref, rdc, binx, binI, binS, unx, eqk, DV.isU, DV.cells, hget, hget0, hset, hset0, stx_ref, splice, DV.one, fillp, mat, eqcs, eqs, fin, fz0, fz1, fzT, fzL, nlt, hp, hq, v1, v2, h1, h2, ldx, a1]
theorem run39 {h : Heap} {p q : Nat} {W T : DV} {ws ts : List Nat} (hp : h[p]? = some (.box 34 [W])) (hq : h[q]? = some (.box 34 [T])) (hW : WL W ws) (hT : WL T ts) (bw : WB ws) (bt : WB ts) (k : Nat) :
    E X 39 [.int .i64 k, .ref p 0, .ref q 0] h = some (uD (at_ ws k ||| at_ ts k), h) := by
  have e1 := run36 hW k
  have e2 := run36 hT k
  have a1 := or_n (bw.at k) (bt.at k)
  rw [E_go (X := X) _ b39 _ rfl rfl]; unfold b39; (repeat (first | rw [s_assoc] | rw [s_seq_reg (by simp [evOps, evOp_n, evOp_r, evOp_d, evOp_dr, kpo_refl, kpo_app, cnd_some, cnd_pair, cnd_cnd_t, cnd_cnd_f, cnd_same, cnd_dvb, cnd_and, cnd_or, ↓evx_pick, gd_bool, gd_boolf, gd_tup, cnd_t, cnd_f, evTo, isCall, evx, put, lk, Od.v, keepEnv, enterEnv, ldx_ref, rdc, binx, binI, binS, unx, eqk, DV.isU, DV.cells, hget, hget0, hset, hset0, stx_ref, splice, DV.one, fillp, mat, eqcs, eqs, hp, hq, e1, e2, a1]; exact ⟨rfl, rfl⟩)] | rw [s_cnd (by simp [lk, keepEnv, Od.v, hp, hq, e1, e2, a1]; exact rfl)] | rw [cnd_t] | rw [cnd_f] | rw [s_skip] | rw [s_ret] | rw [s_exit] | rw [C_ret] | rw [C_exit] | rw [C_skip] | rw [blk_ret] | rw [blk_norm] | rw [blk_exit] | rw [blk_exit' (by decide)] | rw [blkT_ret] | rw [blkT_norm] | rw [blkT_exit] | rw [blkT_exit' (by decide)] | rw [s_blk] | rw [s_reg (by simp [evOps, evOp_n, evOp_r, evOp_d, evOp_dr, kpo_refl, kpo_app, cnd_some, cnd_pair, cnd_cnd_t, cnd_cnd_f, cnd_same, cnd_dvb, cnd_and, cnd_or, ↓evx_pick, gd_bool, gd_boolf, gd_tup, cnd_t, cnd_f, evTo, isCall, evx, put, lk, Od.v, keepEnv, enterEnv, ldx_ref, rdc, binx, binI, binS, unx, eqk, DV.isU, DV.cells, hget, hget0, hset, hset0, stx_ref, splice, DV.one, fillp, mat, eqcs, eqs, hp, hq, e1, e2, a1]; exact ⟨rfl, rfl⟩)] | rw [t_cnd (by simp [lk, keepEnv, Od.v, hp, hq, e1, e2, a1]; exact rfl)] | rw [t_blk])); simp [ends_ret, ends_norm, resL, evOps, evOp_n, evOp_r, evOp_d, evOp_dr, kpo_refl, kpo_app, cnd_some, cnd_pair, cnd_cnd_t, cnd_cnd_f, cnd_same, cnd_dvb, cnd_and, cnd_or, ↓evx_pick, gd_bool, gd_boolf, gd_tup, cnd_t, cnd_f, evTo, isCall, evx, put, lk, Od.v, keepEnv, enterEnv, ldx_ref, rdc, binx, binI, binS, unx, eqk, DV.isU, DV.cells, hget, hget0, hset, hset0, stx_ref, splice, DV.one, fillp, mat, eqcs, eqs, fin, fz0, fz1, fzT, fzL, nlt, hp, hq, e1, e2, a1]
/-- A set, as a value. -/
def SetD (d : DV) (ws : List Nat) : Prop := (∃ W, d = .agg [W] ∧ WL W ws) ∧ WB ws
def andW (ws ts : List Nat) : List Nat := (List.range (min ws.length ts.length)).map fun k => at_ ws k &&& at_ ts k
def orW (ws ts : List Nat) : List Nat := (List.range (max ws.length ts.length)).map fun k => at_ ws k ||| at_ ts k
theorem mm_min (a b : Nat) : mm false .i64 (a : Int) [.int .i64 (b : Int)] = some ((min a b : Nat) : Int) := by
  simp only [mm]
  by_cases h : (b : Int) < a
  · simp [h]; omega
  · simp [h]; omega
theorem mm_max (a b : Nat) : mm true .i64 (a : Int) [.int .i64 (b : Int)] = some ((max a b : Nat) : Int) := by
  simp only [mm]
  by_cases h : (a : Int) < b
  · simp [h]; omega
  · simp [h]; omega
theorem fin_set {H l : Heap} {ws : List Nat} : fin H (H ++ l) [.agg [.list 1 (ws.map uD) false]] = (.agg [.list 1 (ws.map uD) false], H) := by
  simp only [fin]
  rw [if_pos List.take_left]
  simp [fz1, fzL, fz0]
theorem run19 {W T : DV} {ws ts : List Nat} (hW : WL W ws) (hT : WL T ts) (bw : WB ws) (bt : WB ts) (hb : ws.length ≤ 1000000) (H : Heap) : E X 19 [.agg [W], .agg [T]] H = some (.agg [.list 1 ((andW ws ts).map uD) false], H) := by
  have v1 := hW.vw
  have v2 := hT.vw
  have e1 := run37 (H := H ++ [HO.box 34 [W], HO.box 34 [T], HO.box 34 [.nils]]) (f := 38) (n := min ws.length ts.length) (cap := [.ref H.length 0, .ref (H.length + 1) 0]) (word := fun k => at_ ws k &&& at_ ts k) (by omega) (fun k hk l => run38 (by simp) (by simp [hget]) hW hT bw bt (by omega) (by omega))
  have e2 := mm_min ws.length ts.length
  generalize hM : min ws.length ts.length = M at e1 e2
  have hdef : andW ws ts = (List.range M).map fun k => at_ ws k &&& at_ ts k := by rw [andW, hM]
  rw [← hdef] at e1
  generalize andW ws ts = us at e1 ⊢
  rw [E_go (X := X) _ b19 _ rfl rfl]; unfold b19
  (repeat (first | rw [s_assoc] | rw [s_seq_reg (by simp [evOps, evOp_n, evOp_r, evOp_d, evOp_dr, kpo_refl, kpo_app, cnd_some, cnd_pair, cnd_cnd_t, cnd_cnd_f, cnd_same, cnd_dvb, cnd_and, cnd_or, ↓evx_pick, gd_bool, gd_boolf, gd_tup, cnd_t, cnd_f, evTo, isCall, evx, put, lk, Od.v, keepEnv, enterEnv, ldx_ref, rdc, binx, binI, binS, unx, eqk, DV.isU, DV.cells, hget, hget0, hset, hset0, stx_ref, splice, DV.one, fillp, mat, eqcs, eqs, v1, v2, e1, e2]; exact ⟨rfl, rfl⟩)] | rw [s_cnd (by simp [lk, keepEnv, Od.v, v1, v2, e1, e2]; exact rfl)] | rw [cnd_t] | rw [cnd_f] | rw [s_skip] | rw [s_ret] | rw [s_exit] | rw [C_ret] | rw [C_exit] | rw [C_skip] | rw [blk_ret] | rw [blk_norm] | rw [blk_exit] | rw [blk_exit' (by decide)] | rw [blkT_ret] | rw [blkT_norm] | rw [blkT_exit] | rw [blkT_exit' (by decide)] | rw [s_blk] | rw [s_reg (by simp [evOps, evOp_n, evOp_r, evOp_d, evOp_dr, kpo_refl, kpo_app, cnd_some, cnd_pair, cnd_cnd_t, cnd_cnd_f, cnd_same, cnd_dvb, cnd_and, cnd_or, ↓evx_pick, gd_bool, gd_boolf, gd_tup, cnd_t, cnd_f, evTo, isCall, evx, put, lk, Od.v, keepEnv, enterEnv, ldx_ref, rdc, binx, binI, binS, unx, eqk, DV.isU, DV.cells, hget, hget0, hset, hset0, stx_ref, splice, DV.one, fillp, mat, eqcs, eqs, v1, v2, e1, e2]; exact ⟨rfl, rfl⟩)] | rw [t_cnd (by simp [lk, keepEnv, Od.v, v1, v2, e1, e2]; exact rfl)] | rw [t_blk]))
  simp [ends_norm, ends_ret, resL, keepEnv, lk, ldx_ref, hget, hget0, hset, rdc]
  exact fin_set
theorem run20 {W T : DV} {ws ts : List Nat} (hW : WL W ws) (hT : WL T ts) (bw : WB ws) (bt : WB ts) (hb : ws.length ≤ 1000000) (hb' : ts.length ≤ 1000000) (H : Heap) : E X 20 [.agg [W], .agg [T]] H = some (.agg [.list 1 ((orW ws ts).map uD) false], H) := by
  have v1 := hW.vw
  have v2 := hT.vw
  have e1 := run37 (H := H ++ [HO.box 34 [W], HO.box 34 [T], HO.box 34 [.nils]]) (f := 39) (n := max ws.length ts.length) (cap := [.ref H.length 0, .ref (H.length + 1) 0]) (word := fun k => at_ ws k ||| at_ ts k) (by omega) (fun k hk l => run39 (by simp) (by simp [hget]) hW hT bw bt k)
  have e2 := mm_max ws.length ts.length
  generalize hM : max ws.length ts.length = M at e1 e2
  have hdef : orW ws ts = (List.range M).map fun k => at_ ws k ||| at_ ts k := by rw [orW, hM]
  rw [← hdef] at e1
  generalize orW ws ts = us at e1 ⊢
  rw [E_go (X := X) _ b20 _ rfl rfl]; unfold b20
  (repeat (first | rw [s_assoc] | rw [s_seq_reg (by simp [evOps, evOp_n, evOp_r, evOp_d, evOp_dr, kpo_refl, kpo_app, cnd_some, cnd_pair, cnd_cnd_t, cnd_cnd_f, cnd_same, cnd_dvb, cnd_and, cnd_or, ↓evx_pick, gd_bool, gd_boolf, gd_tup, cnd_t, cnd_f, evTo, isCall, evx, put, lk, Od.v, keepEnv, enterEnv, ldx_ref, rdc, binx, binI, binS, unx, eqk, DV.isU, DV.cells, hget, hget0, hset, hset0, stx_ref, splice, DV.one, fillp, mat, eqcs, eqs, v1, v2, e1, e2]; exact ⟨rfl, rfl⟩)] | rw [s_cnd (by simp [lk, keepEnv, Od.v, v1, v2, e1, e2]; exact rfl)] | rw [cnd_t] | rw [cnd_f] | rw [s_skip] | rw [s_ret] | rw [s_exit] | rw [C_ret] | rw [C_exit] | rw [C_skip] | rw [blk_ret] | rw [blk_norm] | rw [blk_exit] | rw [blk_exit' (by decide)] | rw [blkT_ret] | rw [blkT_norm] | rw [blkT_exit] | rw [blkT_exit' (by decide)] | rw [s_blk] | rw [s_reg (by simp [evOps, evOp_n, evOp_r, evOp_d, evOp_dr, kpo_refl, kpo_app, cnd_some, cnd_pair, cnd_cnd_t, cnd_cnd_f, cnd_same, cnd_dvb, cnd_and, cnd_or, ↓evx_pick, gd_bool, gd_boolf, gd_tup, cnd_t, cnd_f, evTo, isCall, evx, put, lk, Od.v, keepEnv, enterEnv, ldx_ref, rdc, binx, binI, binS, unx, eqk, DV.isU, DV.cells, hget, hget0, hset, hset0, stx_ref, splice, DV.one, fillp, mat, eqcs, eqs, v1, v2, e1, e2]; exact ⟨rfl, rfl⟩)] | rw [t_cnd (by simp [lk, keepEnv, Od.v, v1, v2, e1, e2]; exact rfl)] | rw [t_blk]))
  simp [ends_norm, ends_ret, resL, keepEnv, lk, ldx_ref, hget, hget0, hset, rdc]
  exact fin_set
/-- The words of all below n. -/
def uptoW (n : Nat) : List Nat := (List.range ((n + 63) / 64)).map fun k => if k * 64 + 64 ≤ n then 18446744073709551615 else 2 ^ (n - k * 64) - 1
theorem run62 {h : Heap} {q n : Nat} (hq : h[q]? = some (.box 3 [.int .i64 n])) (hn : n ≤ 65536) {k : Nat} (hk : k < (n + 63) / 64) : E X 62 [.int .i64 k, .ref q 0] h = some (uD (if k * 64 + 64 ≤ n then 18446744073709551615 else 2 ^ (n - k * 64) - 1), h) := by
  obtain ⟨K, hK⟩ : ∃ K, K = k * 64 := ⟨_, rfl⟩
  obtain ⟨D, hD⟩ : ∃ D, D = n - K := ⟨_, rfl⟩
  have w1 : IntKind.i64.wrap ((k : Int) * 64) = (K : Int) := (by rw [wrap64 _ (by omega) (by omega)]; omega)
  have w2 : IntKind.i64.wrap ((n : Int) - K) = (D : Int) := (by rw [wrap64 _ (by omega) (by omega)]; omega)
  rw [← hK, ← hD]
  by_cases c : 64 ≤ D
  · have c' : (64 : Int) ≤ D := by omega
    have c2 : K + 64 ≤ n := by omega
    rw [if_pos c2]
    rw [E_go (X := X) _ b62 _ rfl rfl]; unfold b62; (repeat (first | rw [s_assoc] | rw [s_seq_reg (by simp [evOps, evOp_n, evOp_r, evOp_d, evOp_dr, kpo_refl, kpo_app, cnd_some, cnd_pair, cnd_cnd_t, cnd_cnd_f, cnd_same, cnd_dvb, cnd_and, cnd_or, ↓evx_pick, gd_bool, gd_boolf, gd_tup, cnd_t, cnd_f, evTo, isCall, evx, put, lk, Od.v, keepEnv, enterEnv, ldx_ref, rdc, binx, binI, binS, unx, eqk, DV.isU, DV.cells, hget, hget0, hset, hset0, stx_ref, splice, DV.one, fillp, mat, eqcs, eqs, hq, w1, w2, c, c']; exact ⟨rfl, rfl⟩)] | rw [s_cnd (by simp [lk, keepEnv, Od.v, hq, w1, w2, c, c']; exact rfl)] | rw [cnd_t] | rw [cnd_f] | rw [s_skip] | rw [s_ret] | rw [s_exit] | rw [C_ret] | rw [C_exit] | rw [C_skip] | rw [blk_ret] | rw [blk_norm] | rw [blk_exit] | rw [blk_exit' (by decide)] | rw [blkT_ret] | rw [blkT_norm] | rw [blkT_exit] | rw [blkT_exit' (by decide)] | rw [s_blk] | rw [s_reg (by simp [evOps, evOp_n, evOp_r, evOp_d, evOp_dr, kpo_refl, kpo_app, cnd_some, cnd_pair, cnd_cnd_t, cnd_cnd_f, cnd_same, cnd_dvb, cnd_and, cnd_or, ↓evx_pick, gd_bool, gd_boolf, gd_tup, cnd_t, cnd_f, evTo, isCall, evx, put, lk, Od.v, keepEnv, enterEnv, ldx_ref, rdc, binx, binI, binS, unx, eqk, DV.isU, DV.cells, hget, hget0, hset, hset0, stx_ref, splice, DV.one, fillp, mat, eqcs, eqs, hq, w1, w2, c, c']; exact ⟨rfl, rfl⟩)] | rw [t_cnd (by simp [lk, keepEnv, Od.v, hq, w1, w2, c, c']; exact rfl)] | rw [t_blk])); simp [ends_ret, ends_norm, resL, evOps, evOp_n, evOp_r, evOp_d, evOp_dr, kpo_refl, kpo_app, cnd_some, cnd_pair, cnd_cnd_t, cnd_cnd_f, cnd_same, cnd_dvb, cnd_and, cnd_or, ↓evx_pick, gd_bool, gd_boolf, gd_tup, cnd_t, cnd_f, evTo, isCall, evx, put, lk, Od.v, keepEnv, enterEnv, ldx_ref, rdc, binx, binI, binS, unx, eqk, DV.isU, DV.cells, hget, hget0, hset, hset0, stx_ref, splice, DV.one, fillp, mat, eqcs, eqs, fin, fz0, fz1, fzT, fzL, nlt, hq, w1, w2, c, c']
  · have c' : ¬ (64 : Int) ≤ D := by omega
    have c2 : ¬ K + 64 ≤ n := by omega
    rw [if_neg c2]
    have c3 : ¬ (D : Int) < 0 := by omega
    obtain ⟨P, hP⟩ : ∃ P, P = 2 ^ D := ⟨_, rfl⟩
    have hPp : 1 ≤ P := by rw [hP]; exact Nat.one_le_two_pow
    have hPl : P < 18446744073709551616 := by rw [hP]; exact Nat.pow_lt_pow_right (by omega : 1 < 2) (by omega : D < 64)
    have w3 : IntKind.u64.wrap (2 ^ min D IntKind.u64.bits) = (P : Int) := by
      rw [show min D IntKind.u64.bits = D from Nat.min_eq_left (by simp [IntKind.bits]; omega), show (2 : Int) ^ D = ((P : Nat) : Int) by rw [hP]; simp, wrapu, Nat.mod_eq_of_lt hPl]
    have w4 : IntKind.u64.wrap ((P : Int) - 1) = ((P - 1 : Nat) : Int) := by
      rw [show (P : Int) - 1 = ((P - 1 : Nat) : Int) by omega, wrapu, Nat.mod_eq_of_lt (by omega)]
    rw [← hP]
    obtain ⟨Q, hQ⟩ : ∃ Q, Q = P - 1 := ⟨_, rfl⟩
    rw [← hQ] at w4 ⊢
    rw [E_go (X := X) _ b62 _ rfl rfl]; unfold b62; (repeat (first | rw [s_assoc] | rw [s_seq_reg (by simp [evOps, evOp_n, evOp_r, evOp_d, evOp_dr, kpo_refl, kpo_app, cnd_some, cnd_pair, cnd_cnd_t, cnd_cnd_f, cnd_same, cnd_dvb, cnd_and, cnd_or, ↓evx_pick, gd_bool, gd_boolf, gd_tup, cnd_t, cnd_f, evTo, isCall, evx, put, lk, Od.v, keepEnv, enterEnv, ldx_ref, rdc, binx, binI, binS, unx, eqk, DV.isU, DV.cells, hget, hget0, hset, hset0, stx_ref, splice, DV.one, fillp, mat, eqcs, eqs, hq, w1, w2, w3, w4, c, c', c3]; exact ⟨rfl, rfl⟩)] | rw [s_cnd (by simp [lk, keepEnv, Od.v, hq, w1, w2, w3, w4, c, c', c3]; exact rfl)] | rw [cnd_t] | rw [cnd_f] | rw [s_skip] | rw [s_ret] | rw [s_exit] | rw [C_ret] | rw [C_exit] | rw [C_skip] | rw [blk_ret] | rw [blk_norm] | rw [blk_exit] | rw [blk_exit' (by decide)] | rw [blkT_ret] | rw [blkT_norm] | rw [blkT_exit] | rw [blkT_exit' (by decide)] | rw [s_blk] | rw [s_reg (by simp [evOps, evOp_n, evOp_r, evOp_d, evOp_dr, kpo_refl, kpo_app, cnd_some, cnd_pair, cnd_cnd_t, cnd_cnd_f, cnd_same, cnd_dvb, cnd_and, cnd_or, ↓evx_pick, gd_bool, gd_boolf, gd_tup, cnd_t, cnd_f, evTo, isCall, evx, put, lk, Od.v, keepEnv, enterEnv, ldx_ref, rdc, binx, binI, binS, unx, eqk, DV.isU, DV.cells, hget, hget0, hset, hset0, stx_ref, splice, DV.one, fillp, mat, eqcs, eqs, hq, w1, w2, w3, w4, c, c', c3]; exact ⟨rfl, rfl⟩)] | rw [t_cnd (by simp [lk, keepEnv, Od.v, hq, w1, w2, w3, w4, c, c', c3]; exact rfl)] | rw [t_blk])); simp [ends_ret, ends_norm, resL, evOps, evOp_n, evOp_r, evOp_d, evOp_dr, kpo_refl, kpo_app, cnd_some, cnd_pair, cnd_cnd_t, cnd_cnd_f, cnd_same, cnd_dvb, cnd_and, cnd_or, ↓evx_pick, gd_bool, gd_boolf, gd_tup, cnd_t, cnd_f, evTo, isCall, evx, put, lk, Od.v, keepEnv, enterEnv, ldx_ref, rdc, binx, binI, binS, unx, eqk, DV.isU, DV.cells, hget, hget0, hset, hset0, stx_ref, splice, DV.one, fillp, mat, eqcs, eqs, fin, fz0, fz1, fzT, fzL, nlt, hq, w1, w2, w3, w4, c, c', c3]
theorem mm_clamp (n : Nat) : mm true .i64 (n : Int) [.int .i64 0] = some (n : Int) := by
  have h : ¬ (n : Int) < 0 := by omega
  simp [mm, h]
theorem mm_clamp2 (n : Nat) (hn : n ≤ 65536) : mm false .i64 (n : Int) [.int .i64 65536] = some (n : Int) := by
  have h : ¬ (65536 : Int) < n := by omega
  simp [mm, h]
theorem run40 (n : Nat) (hn : n ≤ 65536) (H : Heap) : E X 40 [.int .i64 n] H = some (.agg [.list 1 ((uptoW n).map uD) false], H) := by
  have m1 := mm_clamp n
  have m2 := mm_clamp2 n hn
  obtain ⟨a, ha⟩ : ∃ a, a = n + 64 := ⟨_, rfl⟩
  obtain ⟨b, hb⟩ : ∃ b, b = n + 63 := ⟨_, rfl⟩
  obtain ⟨c, hc⟩ : ∃ c, c = (n + 63) / 64 := ⟨_, rfl⟩
  have w1 : IntKind.i64.wrap ((n : Int) + 64) = (a : Int) := (by rw [wrap64 _ (by omega) (by omega)]; omega)
  have w2 : IntKind.i64.wrap ((a : Int) - 1) = (b : Int) := (by rw [wrap64 _ (by omega) (by omega)]; omega)
  have w3 : IntKind.i64.wrap ((b : Int) / 64) = (c : Int) := (by rw [wrap64 _ (by omega) (by omega)]; omega)
  have e1 := run37 (H := H ++ [HO.box 3 [.int .i64 n], HO.box 34 [.nils]]) (f := 62) (n := c) (cap := [.ref H.length 0]) (word := fun k => if k * 64 + 64 ≤ n then 18446744073709551615 else 2 ^ (n - k * 64) - 1) (by omega) (fun k hk l => run62 (by simp) hn (by rw [← hc]; exact hk))
  have hdef : uptoW n = (List.range c).map fun k => if k * 64 + 64 ≤ n then 18446744073709551615 else 2 ^ (n - k * 64) - 1 := by rw [uptoW, hc]
  rw [← hdef] at e1
  generalize uptoW n = us at e1 ⊢
  rw [E_go (X := X) _ b40 _ rfl rfl]; unfold b40
  (repeat (first | rw [s_assoc] | rw [s_seq_reg (by simp [evOps, evOp_n, evOp_r, evOp_d, evOp_dr, kpo_refl, kpo_app, cnd_some, cnd_pair, cnd_cnd_t, cnd_cnd_f, cnd_same, cnd_dvb, cnd_and, cnd_or, ↓evx_pick, gd_bool, gd_boolf, gd_tup, cnd_t, cnd_f, evTo, isCall, evx, put, lk, Od.v, keepEnv, enterEnv, ldx_ref, rdc, binx, binI, binS, unx, eqk, DV.isU, DV.cells, hget, hget0, hset, hset0, stx_ref, splice, DV.one, fillp, mat, eqcs, eqs, m1, m2, w1, w2, w3, e1]; exact ⟨rfl, rfl⟩)] | rw [s_cnd (by simp [lk, keepEnv, Od.v, m1, m2, w1, w2, w3, e1]; exact rfl)] | rw [cnd_t] | rw [cnd_f] | rw [s_skip] | rw [s_ret] | rw [s_exit] | rw [C_ret] | rw [C_exit] | rw [C_skip] | rw [blk_ret] | rw [blk_norm] | rw [blk_exit] | rw [blk_exit' (by decide)] | rw [blkT_ret] | rw [blkT_norm] | rw [blkT_exit] | rw [blkT_exit' (by decide)] | rw [s_blk] | rw [s_reg (by simp [evOps, evOp_n, evOp_r, evOp_d, evOp_dr, kpo_refl, kpo_app, cnd_some, cnd_pair, cnd_cnd_t, cnd_cnd_f, cnd_same, cnd_dvb, cnd_and, cnd_or, ↓evx_pick, gd_bool, gd_boolf, gd_tup, cnd_t, cnd_f, evTo, isCall, evx, put, lk, Od.v, keepEnv, enterEnv, ldx_ref, rdc, binx, binI, binS, unx, eqk, DV.isU, DV.cells, hget, hget0, hset, hset0, stx_ref, splice, DV.one, fillp, mat, eqcs, eqs, m1, m2, w1, w2, w3, e1]; exact ⟨rfl, rfl⟩)] | rw [t_cnd (by simp [lk, keepEnv, Od.v, m1, m2, w1, w2, w3, e1]; exact rfl)] | rw [t_blk]))
  simp [ends_norm, ends_ret, resL, keepEnv, lk, ldx_ref, hget, hget0, hset, rdc]
  exact fin_set
theorem uptoW_WB (n : Nat) : WB (uptoW n) := by
  intro x hx
  simp only [uptoW, List.mem_map, List.mem_range] at hx
  obtain ⟨k, hk, rfl⟩ := hx
  split
  · omega
  · rename_i h
    have : 2 ^ (n - k * 64) ≤ 2 ^ 63 := Nat.pow_le_pow_right (by omega) (by omega)
    omega
end Go.Proofs.YtfgnefnpfgdliaaDoor
namespace Go.Proofs.YtfgnefnpfgdliaaDoor
set_option linter.unusedVariables false
set_option linter.unusedSimpArgs false
set_option maxRecDepth 10000
def nw (a b : Nat) : Nat := a &&& (18446744073709551615 - b)
theorem not_n {a b : Nat} (ha : a < 18446744073709551616) (hb : b < 18446744073709551616) : IntKind.u64.wrap ((a % 2 ^ IntKind.u64.bits &&& 2 ^ IntKind.u64.bits - 1 - b % 2 ^ IntKind.u64.bits : Nat) : Int) = ((nw a b : Nat) : Int) := by
  rw [bits_u, Nat.mod_eq_of_lt ha, Nat.mod_eq_of_lt hb, wrapu]
  rw [Nat.mod_eq_of_lt (Nat.lt_of_le_of_lt Nat.and_le_left ha)]
  rfl
theorem run41 {h : Heap} {p q : Nat} {W T : DV} {ws ts : List Nat} (hp : h[p]? = some (.box 34 [W])) (hq : h[q]? = some (.box 34 [T])) (hW : WL W ws) (hT : WL T ts) (bw : WB ws) (bt : WB ts) {k : Nat} (h1 : k < ws.length) :
    E X 41 [.int .i64 k, .ref p 0, .ref q 0] h = some (uD (nw (at_ ws k) (at_ ts k)), h) := by
  have v1 := hW.vw
  have e2 := run36 hT k
  have e1 : at_ ws k = ws[k] := by simp [at_, List.getD, List.getElem?_eq_getElem h1]
  have a1 := not_n (bw.at k) (bt.at k)
  rw [e1] at a1
  rw [e1]
  rw [E_go (X := X) _ b41 _ rfl rfl]; unfold b41; (repeat (first | rw [s_assoc] | rw [s_seq_reg (by simp [evOps, evOp_n, evOp_r, evOp_d, evOp_dr, kpo_refl, kpo_app, cnd_some, cnd_pair, cnd_cnd_t, cnd_cnd_f, cnd_same, cnd_dvb, cnd_and, cnd_or, ↓evx_pick, gd_bool, gd_boolf, gd_tup, cnd_t, cnd_f, evTo, isCall, evx, put, lk, Od.v, keepEnv, enterEnv, ldx_ref, rdc, binx, binI, binS, unx, eqk, DV.isU, DV.cells, hget, hget0, hset, hset0, stx_ref, splice, DV.one, fillp, mat, eqcs, eqs, hp, hq, v1, e2, h1, ldx, a1]; exact ⟨rfl, rfl⟩)] | rw [s_cnd (by simp [lk, keepEnv, Od.v, hp, hq, v1, e2, h1, ldx, a1]; exact rfl)] | rw [cnd_t] | rw [cnd_f] | rw [s_skip] | rw [s_ret] | rw [s_exit] | rw [C_ret] | rw [C_exit] | rw [C_skip] | rw [blk_ret] | rw [blk_norm] | rw [blk_exit] | rw [blk_exit' (by decide)] | rw [blkT_ret] | rw [blkT_norm] | rw [blkT_exit] | rw [blkT_exit' (by decide)] | rw [s_blk] | rw [s_reg (by simp [evOps, evOp_n, evOp_r, evOp_d, evOp_dr, kpo_refl, kpo_app, cnd_some, cnd_pair, cnd_cnd_t, cnd_cnd_f, cnd_same, cnd_dvb, cnd_and, cnd_or, ↓evx_pick, gd_bool, gd_boolf, gd_tup, cnd_t, cnd_f, evTo, isCall, evx, put, lk, Od.v, keepEnv, enterEnv, ldx_ref, rdc, binx, binI, binS, unx, eqk, DV.isU, DV.cells, hget, hget0, hset, hset0, stx_ref, splice, DV.one, fillp, mat, eqcs, eqs, hp, hq, v1, e2, h1, ldx, a1]; exact ⟨rfl, rfl⟩)] | rw [t_cnd (by simp [lk, keepEnv, Od.v, hp, hq, v1, e2, h1, ldx, a1]; exact rfl)] | rw [t_blk])); simp [ends_ret, ends_norm, resL, evOps, evOp_n, evOp_r, evOp_d, evOp_dr, kpo_refl, kpo_app, cnd_some, cnd_pair, cnd_cnd_t, cnd_cnd_f, cnd_same, cnd_dvb, cnd_and, cnd_or, ↓evx_pick, gd_bool, gd_boolf, gd_tup, cnd_t, cnd_f, evTo, isCall, evx, put, lk, Od.v, keepEnv, enterEnv, ldx_ref, rdc, binx, binI, binS, unx, eqk, DV.isU, DV.cells, hget, hget0, hset, hset0, stx_ref, splice, DV.one, fillp, mat, eqcs, eqs, fin, fz0, fz1, fzT, fzL, nlt, hp, hq, v1, e2, h1, ldx, a1]
/-- The words of those below n that are not in a set. -/
def notW (ws : List Nat) (n : Nat) : List Nat := (List.range ((n + 63) / 64)).map fun k => nw (at_ (uptoW n) k) (at_ ws k)
theorem uptoW_len (n : Nat) : (uptoW n).length = (n + 63) / 64 := by simp [uptoW]
theorem run21 {W : DV} {ws : List Nat} (hW : WL W ws) (bw : WB ws) (n : Nat) (hn : n ≤ 65536) (H : Heap) : E X 21 [.agg [W], .int .i64 n] H = some (.agg [.list 1 ((notW ws n).map uD) false], H) := by
  have e0 := fun l => run40 n hn (H ++ l)
  have hlen := uptoW_len n
  have hu : WL (.list 1 ((uptoW n).map uD) false) (uptoW n) := .inl rfl
  have v1 := hu.vw
  have e1 := run37 (H := H ++ [HO.box 34 [W], HO.box 34 [.nils], HO.box 34 [.list 1 ((uptoW n).map uD) false]]) (f := 41) (n := (n + 63) / 64) (cap := [.ref (H.length + 2) 0, .ref H.length 0]) (word := fun k => nw (at_ (uptoW n) k) (at_ ws k)) (by omega) (fun k hk l => run41 (by simp [hget]) (by simp) hu hW (uptoW_WB n) bw (by rw [hlen]; exact hk))
  have hdef : notW ws n = (List.range ((n + 63) / 64)).map fun k => nw (at_ (uptoW n) k) (at_ ws k) := rfl
  rw [← hdef] at e1
  generalize notW ws n = us at e1 ⊢
  rw [← hlen] at e1
  generalize uptoW n = up at *
  rw [E_go (X := X) _ b21 _ rfl rfl]; unfold b21
  (repeat (first | rw [s_assoc] | rw [s_seq_reg (by simp [evOps, evOp_n, evOp_r, evOp_d, evOp_dr, kpo_refl, kpo_app, cnd_some, cnd_pair, cnd_cnd_t, cnd_cnd_f, cnd_same, cnd_dvb, cnd_and, cnd_or, ↓evx_pick, gd_bool, gd_boolf, gd_tup, cnd_t, cnd_f, evTo, isCall, evx, put, lk, Od.v, keepEnv, enterEnv, ldx_ref, rdc, binx, binI, binS, unx, eqk, DV.isU, DV.cells, hget, hget0, hset, hset0, stx_ref, splice, DV.one, fillp, mat, eqcs, eqs, e0, v1, e1]; exact ⟨rfl, rfl⟩)] | rw [s_cnd (by simp [lk, keepEnv, Od.v, e0, v1, e1]; exact rfl)] | rw [cnd_t] | rw [cnd_f] | rw [s_skip] | rw [s_ret] | rw [s_exit] | rw [C_ret] | rw [C_exit] | rw [C_skip] | rw [blk_ret] | rw [blk_norm] | rw [blk_exit] | rw [blk_exit' (by decide)] | rw [blkT_ret] | rw [blkT_norm] | rw [blkT_exit] | rw [blkT_exit' (by decide)] | rw [s_blk] | rw [s_reg (by simp [evOps, evOp_n, evOp_r, evOp_d, evOp_dr, kpo_refl, kpo_app, cnd_some, cnd_pair, cnd_cnd_t, cnd_cnd_f, cnd_same, cnd_dvb, cnd_and, cnd_or, ↓evx_pick, gd_bool, gd_boolf, gd_tup, cnd_t, cnd_f, evTo, isCall, evx, put, lk, Od.v, keepEnv, enterEnv, ldx_ref, rdc, binx, binI, binS, unx, eqk, DV.isU, DV.cells, hget, hget0, hset, hset0, stx_ref, splice, DV.one, fillp, mat, eqcs, eqs, e0, v1, e1]; exact ⟨rfl, rfl⟩)] | rw [t_cnd (by simp [lk, keepEnv, Od.v, e0, v1, e1]; exact rfl)] | rw [t_blk]))
  simp [ends_norm, ends_ret, resL, keepEnv, lk, ldx_ref, hget, hget0, hset, rdc]
  exact fin_set
/-- Is a number in a set? -/
def bit (ws : List Nat) (i : Nat) : Bool := (at_ ws (i / 64)).testBit (i % 64)
theorem run24 {W : DV} {ws : List Nat} (hW : WL W ws) (bw : WB ws) (i : Nat) (hi : i < 65536) (H : Heap) : E X 24 [.agg [W], .int .i64 i] H = some (.bool (bit ws i), H) := by
  obtain ⟨k, hk⟩ : ∃ k, k = i / 64 := ⟨_, rfl⟩
  obtain ⟨j, hj⟩ : ∃ j, j = i % 64 := ⟨_, rfl⟩
  have w1 : IntKind.i64.wrap ((i : Int) / 64) = (k : Int) := (by rw [wrap64 _ (by omega) (by omega)]; omega)
  have w2 : ((i : Int)).tmod 64 = (j : Int) := by rw [Int.tmod_eq_emod_of_nonneg (by omega)]; omega
  have e1 := fun l => run36 hW k (H ++ l)
  have hb : bit ws i = (at_ ws k).testBit j := by rw [bit, hk, hj]
  have hb' := bw.at k
  generalize at_ ws k = a at e1 hb hb'
  have hj' : j < 64 := by omega
  have w3 : (a : Int).fdiv (2 ^ min j IntKind.u64.bits) = ((a / 2 ^ j : Nat) : Int) := by
    rw [show min j IntKind.u64.bits = j from Nat.min_eq_left (by simp [IntKind.bits]; omega)]
    rw [show (2 : Int) ^ j = ((2 ^ j : Nat) : Int) by simp, Int.fdiv_eq_ediv_of_nonneg _ (Int.natCast_nonneg _)]
    rfl
  have w4 : IntKind.u64.wrap ((a / 2 ^ j % 2 ^ IntKind.u64.bits &&& 1 % 2 ^ IntKind.u64.bits : Nat) : Int) = if a.testBit j then 1 else 0 := by
    have hl : a / 2 ^ j < 18446744073709551616 := Nat.lt_of_le_of_lt (Nat.div_le_self _ _) hb'
    rw [bits_u, Nat.mod_eq_of_lt hl, wrapu, Nat.testBit_eq_decide_div_mod_eq]
    generalize a / 2 ^ j = q
    rw [show 1 % 18446744073709551616 = 1 from rfl, Nat.and_one_is_mod]
    by_cases c : q % 2 = 1
    · simp [c]
    · have : q % 2 = 0 := by omega
      simp [this]
  generalize a / 2 ^ j = q at w3 w4
  have e2 := run42 (i : Int)
  have c1 : decide ((0 : Int) ≤ i) = true := by simp
  have c2 : decide ((i : Int) < 65536) = true := by simp; omega
  have d0 : ¬ (j : Int) < 0 := by omega
  rw [c1, c2, Bool.and_self] at e2
  rw [hb]
  cases hc : a.testBit j
  all_goals rw [hc] at w4
  · rw [E_go (X := X) _ b24 _ rfl rfl]; unfold b24; (repeat (first | rw [s_assoc] | rw [s_seq_reg (by simp [evOps, evOp_n, evOp_r, evOp_d, evOp_dr, kpo_refl, kpo_app, cnd_some, cnd_pair, cnd_cnd_t, cnd_cnd_f, cnd_same, cnd_dvb, cnd_and, cnd_or, ↓evx_pick, gd_bool, gd_boolf, gd_tup, cnd_t, cnd_f, evTo, isCall, evx, put, lk, Od.v, keepEnv, enterEnv, ldx_ref, rdc, binx, binI, binS, unx, eqk, DV.isU, DV.cells, hget, hget0, hset, hset0, stx_ref, splice, DV.one, fillp, mat, eqcs, eqs, e2, w1, w2, w3, w4, e1, d0]; exact ⟨rfl, rfl⟩)] | rw [s_cnd (by simp [lk, keepEnv, Od.v, e2, w1, w2, w3, w4, e1, d0]; exact rfl)] | rw [cnd_t] | rw [cnd_f] | rw [s_skip] | rw [s_ret] | rw [s_exit] | rw [C_ret] | rw [C_exit] | rw [C_skip] | rw [blk_ret] | rw [blk_norm] | rw [blk_exit] | rw [blk_exit' (by decide)] | rw [blkT_ret] | rw [blkT_norm] | rw [blkT_exit] | rw [blkT_exit' (by decide)] | rw [s_blk] | rw [s_reg (by simp [evOps, evOp_n, evOp_r, evOp_d, evOp_dr, kpo_refl, kpo_app, cnd_some, cnd_pair, cnd_cnd_t, cnd_cnd_f, cnd_same, cnd_dvb, cnd_and, cnd_or, ↓evx_pick, gd_bool, gd_boolf, gd_tup, cnd_t, cnd_f, evTo, isCall, evx, put, lk, Od.v, keepEnv, enterEnv, ldx_ref, rdc, binx, binI, binS, unx, eqk, DV.isU, DV.cells, hget, hget0, hset, hset0, stx_ref, splice, DV.one, fillp, mat, eqcs, eqs, e2, w1, w2, w3, w4, e1, d0]; exact ⟨rfl, rfl⟩)] | rw [t_cnd (by simp [lk, keepEnv, Od.v, e2, w1, w2, w3, w4, e1, d0]; exact rfl)] | rw [t_blk])); simp [ends_ret, ends_norm, resL, evOps, evOp_n, evOp_r, evOp_d, evOp_dr, kpo_refl, kpo_app, cnd_some, cnd_pair, cnd_cnd_t, cnd_cnd_f, cnd_same, cnd_dvb, cnd_and, cnd_or, ↓evx_pick, gd_bool, gd_boolf, gd_tup, cnd_t, cnd_f, evTo, isCall, evx, put, lk, Od.v, keepEnv, enterEnv, ldx_ref, rdc, binx, binI, binS, unx, eqk, DV.isU, DV.cells, hget, hget0, hset, hset0, stx_ref, splice, DV.one, fillp, mat, eqcs, eqs, fin, fz0, fz1, fzT, fzL, nlt, e2, w1, w2, w3, w4, e1, d0]
  · rw [E_go (X := X) _ b24 _ rfl rfl]; unfold b24; (repeat (first | rw [s_assoc] | rw [s_seq_reg (by simp [evOps, evOp_n, evOp_r, evOp_d, evOp_dr, kpo_refl, kpo_app, cnd_some, cnd_pair, cnd_cnd_t, cnd_cnd_f, cnd_same, cnd_dvb, cnd_and, cnd_or, ↓evx_pick, gd_bool, gd_boolf, gd_tup, cnd_t, cnd_f, evTo, isCall, evx, put, lk, Od.v, keepEnv, enterEnv, ldx_ref, rdc, binx, binI, binS, unx, eqk, DV.isU, DV.cells, hget, hget0, hset, hset0, stx_ref, splice, DV.one, fillp, mat, eqcs, eqs, e2, w1, w2, w3, w4, e1, d0]; exact ⟨rfl, rfl⟩)] | rw [s_cnd (by simp [lk, keepEnv, Od.v, e2, w1, w2, w3, w4, e1, d0]; exact rfl)] | rw [cnd_t] | rw [cnd_f] | rw [s_skip] | rw [s_ret] | rw [s_exit] | rw [C_ret] | rw [C_exit] | rw [C_skip] | rw [blk_ret] | rw [blk_norm] | rw [blk_exit] | rw [blk_exit' (by decide)] | rw [blkT_ret] | rw [blkT_norm] | rw [blkT_exit] | rw [blkT_exit' (by decide)] | rw [s_blk] | rw [s_reg (by simp [evOps, evOp_n, evOp_r, evOp_d, evOp_dr, kpo_refl, kpo_app, cnd_some, cnd_pair, cnd_cnd_t, cnd_cnd_f, cnd_same, cnd_dvb, cnd_and, cnd_or, ↓evx_pick, gd_bool, gd_boolf, gd_tup, cnd_t, cnd_f, evTo, isCall, evx, put, lk, Od.v, keepEnv, enterEnv, ldx_ref, rdc, binx, binI, binS, unx, eqk, DV.isU, DV.cells, hget, hget0, hset, hset0, stx_ref, splice, DV.one, fillp, mat, eqcs, eqs, e2, w1, w2, w3, w4, e1, d0]; exact ⟨rfl, rfl⟩)] | rw [t_cnd (by simp [lk, keepEnv, Od.v, e2, w1, w2, w3, w4, e1, d0]; exact rfl)] | rw [t_blk])); simp [ends_ret, ends_norm, resL, evOps, evOp_n, evOp_r, evOp_d, evOp_dr, kpo_refl, kpo_app, cnd_some, cnd_pair, cnd_cnd_t, cnd_cnd_f, cnd_same, cnd_dvb, cnd_and, cnd_or, ↓evx_pick, gd_bool, gd_boolf, gd_tup, cnd_t, cnd_f, evTo, isCall, evx, put, lk, Od.v, keepEnv, enterEnv, ldx_ref, rdc, binx, binI, binS, unx, eqk, DV.isU, DV.cells, hget, hget0, hset, hset0, stx_ref, splice, DV.one, fillp, mat, eqcs, eqs, fin, fz0, fz1, fzT, fzL, nlt, e2, w1, w2, w3, w4, e1, d0]
end Go.Proofs.YtfgnefnpfgdliaaDoor
namespace Go.Proofs.YtfgnefnpfgdliaaDoor
set_option linter.unusedVariables false
set_option linter.unusedSimpArgs false
set_option maxRecDepth 10000
/-- Words with a number put in. -/
def padW (ws : List Nat) (n : Nat) : List Nat := ws ++ List.replicate (n - ws.length) 0
def putW (ws : List Nat) (i : Nat) : List Nat := (padW ws (i / 64 + 1)).set (i / 64) (at_ (padW ws (i / 64 + 1)) (i / 64) ||| 2 ^ (i % 64))
theorem padW_len (ws : List Nat) (n : Nat) : (padW ws n).length = max ws.length n := by simp [padW]; omega
theorem putW_len (ws : List Nat) (i : Nat) : (putW ws i).length = max ws.length (i / 64 + 1) := by simp [putW, padW_len]
theorem padW_le {ws : List Nat} {n : Nat} (h : n ≤ ws.length) : padW ws n = ws := by simp [padW, show n - ws.length = 0 by omega]
theorem padW_step {ws : List Nat} {n : Nat} (h : ws.length < n) : padW (ws ++ [0]) n = padW ws n := by
  simp only [padW, List.length_append, List.length_cons, List.length_nil, List.append_assoc]
  rw [show n - ws.length = (n - (ws.length + (0 + 1))) + 1 by omega, List.replicate_succ]
  rfl
theorem or_p {a j : Nat} (ha : a < 18446744073709551616) (hj : j < 64) : IntKind.u64.wrap ((a % 2 ^ IntKind.u64.bits ||| 2 ^ j % 2 ^ IntKind.u64.bits : Nat) : Int) = ((a ||| 2 ^ j : Nat) : Int) :=
  or_n ha (Nat.pow_lt_pow_right (by omega : 1 < 2) hj)
/-- Where words lie that are made. -/
def MadeW (h : Heap) (H : Heap) (w : DV) (ws : List Nat) : Prop := (w = .nils ∧ ws = [] ∧ h = H) ∨ ∃ g, w = .row H.length g 0 ws.length false ∧ h = H ++ [.row 77 1 g (ws.map uD)]
theorem MadeW.vw {h H : Heap} {w : DV} {ws : List Nat} (hm : MadeW h H w ws) : vw h 1 w = some (ws.map uD) := by
  rcases hm with ⟨rfl, rfl, rfl⟩ | ⟨g, rfl, rfl⟩
  · rfl
  · simp [Go.Proofs.YtfgnefnpfgdliaaDoor.vw, hget0, List.take_of_length_le]
theorem MadeW.app {h H : Heap} {w : DV} {ws : List Nat} (hm : MadeW h H w ws) (hb : ws.length ≤ 1000000) (x : Nat) : ∃ w' h', appx h 77 1 8 w (ws.map uD) [uD x] = some (w', h') ∧ MadeW h' H w' (ws ++ [x]) := by
  have hle : ((ws.map uD).length + [uD x].length) * 8 ≤ 140737488355328 := by simp; omega
  rcases hm with ⟨rfl, rfl, rfl⟩ | ⟨g, rfl, rfl⟩
  · exact ⟨_, _, by simp [appx], .inr ⟨0, rfl, rfl⟩⟩
  · refine ⟨.row H.length (g + 1) 0 (ws.length + 1) false, H ++ [.row 77 1 (g + 1) ((ws ++ [x]).map uD)], ?_, .inr ⟨g + 1, by simp, rfl⟩⟩
    simp only [appx, if_pos hle, hget0]
    simp [hset0]
theorem loop43 {H : Heap} (i : Nat) (hi : i < 65536) : ∀ (m : Nat) (w : DV) (ws : List Nat) (h : Heap), i / 64 + 1 - ws.length ≤ m → ws.length ≤ 100000 → MadeW h H w ws →
      ∃ w' ex h', C X (.loop lp43_0) [(0, w), (1, .int .i64 i)] h = some (.exit 0, (0, w') :: (1, .int .i64 i) :: ex, h') ∧ MadeW h' H w' (padW ws (i / 64 + 1)) := by
  intro m
  obtain ⟨k, hk⟩ : ∃ k, k = i / 64 := ⟨_, rfl⟩
  have w1 : IntKind.i64.wrap ((i : Int) / 64) = (k : Int) := (by rw [wrap64 _ (by omega) (by omega)]; omega)
  induction m with
  | zero =>
    intro w ws h hm hb hM
    have hv := hM.vw
    have c1 : ¬ ws.length ≤ k := by omega
    refine ⟨w, [(9, .bool false)], h, ?_, by rw [padW_le (by omega)]; exact hM⟩
    rw [t_loop]
    unfold lp43_0
    (repeat (first | rw [s_assoc] | rw [s_seq_reg (by simp [evOps, evOp_n, evOp_r, evOp_d, evOp_dr, kpo_refl, kpo_app, cnd_some, cnd_pair, cnd_cnd_t, cnd_cnd_f, cnd_same, cnd_dvb, cnd_and, cnd_or, ↓evx_pick, gd_bool, gd_boolf, gd_tup, cnd_t, cnd_f, evTo, isCall, evx, put, lk, Od.v, keepEnv, enterEnv, ldx_ref, rdc, binx, binI, binS, unx, eqk, DV.isU, DV.cells, hget, hget0, hset, hset0, stx_ref, splice, DV.one, fillp, mat, eqcs, eqs, hv, w1, c1]; exact ⟨rfl, rfl⟩)] | rw [s_cnd (by simp [lk, keepEnv, Od.v, hv, w1, c1]; exact rfl)] | rw [cnd_t] | rw [cnd_f] | rw [s_skip] | rw [s_ret] | rw [s_exit] | rw [C_ret] | rw [C_exit] | rw [C_skip] | rw [blk_ret] | rw [blk_norm] | rw [blk_exit] | rw [blk_exit' (by decide)] | rw [blkT_ret] | rw [blkT_norm] | rw [blkT_exit] | rw [blkT_exit' (by decide)] | rw [s_blk] | rw [s_reg (by simp [evOps, evOp_n, evOp_r, evOp_d, evOp_dr, kpo_refl, kpo_app, cnd_some, cnd_pair, cnd_cnd_t, cnd_cnd_f, cnd_same, cnd_dvb, cnd_and, cnd_or, ↓evx_pick, gd_bool, gd_boolf, gd_tup, cnd_t, cnd_f, evTo, isCall, evx, put, lk, Od.v, keepEnv, enterEnv, ldx_ref, rdc, binx, binI, binS, unx, eqk, DV.isU, DV.cells, hget, hget0, hset, hset0, stx_ref, splice, DV.one, fillp, mat, eqcs, eqs, hv, w1, c1]; exact ⟨rfl, rfl⟩)] | rw [t_cnd (by simp [lk, keepEnv, Od.v, hv, w1, c1]; exact rfl)] | rw [t_blk]))
    rw [lp_exit]
    simp [keepEnv, lk]
  | succ m ih =>
    intro w ws h hm hb hM
    by_cases c1 : ws.length ≤ k
    · obtain ⟨w', h', ha, hM'⟩ := hM.app (by omega) 0
      have hv := hM.vw
      have hs : C X lp43_0 [(0, w), (1, .int .i64 i)] h = some (.norm, [(0, w'), (1, .int .i64 i)], h') := by
        unfold lp43_0
        have z1 : vw h 1 (.list 1 [.int .u64 0] true) = some [.int .u64 0] := rfl
        have z2 : srcOf h 1 (.list 1 [.int .u64 0] true) = some [.int .u64 0] := rfl
        have z5 : ∀ h, eltL [.int .u64 0] h = some ([.int .u64 0], h) := fun _ => rfl
        rw [show uD 0 = .int .u64 0 from rfl] at ha
        have z3 : Wc 1 (.int .u64 0) := by simp [Wc, DV.cells, DV.one]
        have z4 : Nr (.int .u64 0) := .int _ _
        (repeat (first | rw [s_assoc] | rw [s_seq_reg (by simp [evOps, evOp_n, evOp_r, evOp_d, evOp_dr, kpo_refl, kpo_app, cnd_some, cnd_pair, cnd_cnd_t, cnd_cnd_f, cnd_same, cnd_dvb, cnd_and, cnd_or, ↓evx_pick, gd_bool, gd_boolf, gd_tup, cnd_t, cnd_f, evTo, isCall, evx, put, lk, Od.v, keepEnv, enterEnv, ldx_ref, rdc, binx, binI, binS, unx, eqk, DV.isU, DV.cells, hget, hget0, hset, hset0, stx_ref, splice, DV.one, fillp, mat, eqcs, eqs, hv, w1, c1, ha, z1, z2, z3, z4, z5]; exact ⟨rfl, rfl⟩)] | rw [s_cnd (by simp [lk, keepEnv, Od.v, hv, w1, c1, ha, z1, z2, z3, z4, z5]; exact rfl)] | rw [cnd_t] | rw [cnd_f] | rw [s_skip] | rw [s_ret] | rw [s_exit] | rw [C_ret] | rw [C_exit] | rw [C_skip] | rw [blk_ret] | rw [blk_norm] | rw [blk_exit] | rw [blk_exit' (by decide)] | rw [blkT_ret] | rw [blkT_norm] | rw [blkT_exit] | rw [blkT_exit' (by decide)] | rw [s_blk] | rw [s_reg (by simp [evOps, evOp_n, evOp_r, evOp_d, evOp_dr, kpo_refl, kpo_app, cnd_some, cnd_pair, cnd_cnd_t, cnd_cnd_f, cnd_same, cnd_dvb, cnd_and, cnd_or, ↓evx_pick, gd_bool, gd_boolf, gd_tup, cnd_t, cnd_f, evTo, isCall, evx, put, lk, Od.v, keepEnv, enterEnv, ldx_ref, rdc, binx, binI, binS, unx, eqk, DV.isU, DV.cells, hget, hget0, hset, hset0, stx_ref, splice, DV.one, fillp, mat, eqcs, eqs, hv, w1, c1, ha, z1, z2, z3, z4, z5]; exact ⟨rfl, rfl⟩)] | rw [t_cnd (by simp [lk, keepEnv, Od.v, hv, w1, c1, ha, z1, z2, z3, z4, z5]; exact rfl)] | rw [t_blk]))
        simp [keepEnv, lk]
      rw [t_loop, hs, lp_norm]
      obtain ⟨w2, ex, h2, r1, r2⟩ := ih w' (ws ++ [0]) h' (by simp; omega) (by simp; omega) hM'
      exact ⟨w2, ex, h2, r1, by rw [← padW_step (by omega)]; exact r2⟩
    · exact ih w ws h (by omega) hb hM

theorem mw_wr {H : Heap} {g : Nat} {ws : List Nat} {n : Nat} (hn : ws.length = n) {i : Nat} (hi : i < n) (x : Nat) : stx (H ++ [.row 77 1 g (ws.map uD)]) 1 (.elem (.row H.length g 0 n false) 1 i 0) (.int .u64 x) = some (H ++ [.row 77 1 g ((ws.set i x).map uD)]) := by
  subst hn
  have h1 : (H ++ [HO.row 77 1 g (ws.map uD)])[H.length]? = some (.row 77 1 g (ws.map uD)) := by simp [hget0]
  have h2 : (ws.map uD)[i]? = some (uD ws[i]) := by simp [List.getElem?_eq_getElem hi]
  rw [stx, if_pos (by simp [DV.cells, DV.one])]
  simp only [h1]
  rw [if_pos (by simp [hi])]
  simp only [Nat.zero_add, h2]
  simp [eput, DV.one, hset0]
theorem body43 {H h : Heap} {w : DV} {ws : List Nat} (hM : MadeW h H w ws) (bw : WB ws) (i : Nat) (hi : i < 65536) (hb : ws.length ≤ 100000) :
    ∃ g, C X b43 [(0, w), (1, .int .i64 i)] h = some (.ret, [(4, .row H.length g 0 (putW ws i).length false)], H ++ [.row 77 1 g ((putW ws i).map uD)]) := by
  obtain ⟨w', ex, h', c1, hM'⟩ := loop43 (H := H) i hi (i / 64 + 1) w ws h (by omega) hb hM
  have bp : WB (padW ws (i / 64 + 1)) := by
    intro x hx
    rcases List.mem_append.1 hx with hx | hx
    · exact bw x hx
    · rw [List.mem_replicate] at hx; omega
  have hpl := padW_len ws (i / 64 + 1)
  have hpu : putW ws i = (padW ws (i / 64 + 1)).set (i / 64) (at_ (padW ws (i / 64 + 1)) (i / 64) ||| 2 ^ (i % 64)) := rfl
  rw [hpu]
  generalize padW ws (i / 64 + 1) = us at *
  rcases hM' with ⟨_, hn, _⟩ | ⟨g, rfl, rfl⟩
  · subst hn; simp at hpl; omega
  obtain ⟨k, hk⟩ : ∃ k, k = i / 64 := ⟨_, rfl⟩
  obtain ⟨j, hj⟩ : ∃ j, j = i % 64 := ⟨_, rfl⟩
  have hj' : j < 64 := by omega
  have hk' : k < us.length := by omega
  rw [← hk, ← hj]
  have w1 : IntKind.i64.wrap ((i : Int) / 64) = (k : Int) := (by rw [wrap64 _ (by omega) (by omega)]; omega)
  have w2 : ((i : Int)).tmod 64 = (j : Int) := by rw [Int.tmod_eq_emod_of_nonneg (by omega)]; omega
  have w3 : IntKind.u64.wrap (2 ^ min j IntKind.u64.bits) = ((2 ^ j : Nat) : Int) := by
    have hPl : 2 ^ j < 18446744073709551616 := Nat.pow_lt_pow_right (by omega : 1 < 2) hj'
    rw [show min j IntKind.u64.bits = j from Nat.min_eq_left (by simp [IntKind.bits]; omega), show (2 : Int) ^ j = ((2 ^ j : Nat) : Int) by simp, wrapu, Nat.mod_eq_of_lt hPl]
  have w4 := or_p (bp.at k) hj'
  have d0 : ¬ (j : Int) < 0 := by omega
  have e1 : at_ us k = us[k] := by simp [at_, List.getD, List.getElem?_eq_getElem hk']
  have a2 := mw_wr (H := H) (g := g) (ws := us) rfl hk' (at_ us k ||| 2 ^ j)
  obtain ⟨P, hP⟩ : ∃ P, P = 2 ^ j := ⟨_, rfl⟩
  rw [← hP] at w3 w4 a2 ⊢
  have a1 : vw (H ++ [HO.row 77 1 g (us.map uD)]) 1 (.row H.length g 0 us.length false) = some (us.map uD) := by
    simp [vw, hget0, List.take_of_length_le]
  refine ⟨g, ?_⟩
  unfold lp43_0 at c1
  unfold b43
  (repeat (first | rw [s_assoc] | rw [s_seq_reg (by simp [evOps, evOp_n, evOp_r, evOp_d, evOp_dr, kpo_refl, kpo_app, cnd_some, cnd_pair, cnd_cnd_t, cnd_cnd_f, cnd_same, cnd_dvb, cnd_and, cnd_or, ↓evx_pick, gd_bool, gd_boolf, gd_tup, cnd_t, cnd_f, evTo, isCall, evx, put, lk, Od.v, keepEnv, enterEnv, ldx_ref, rdc, binx, binI, binS, unx, eqk, DV.isU, DV.cells, hget, hget0, hset, hset0, stx_ref, splice, DV.one, fillp, mat, eqcs, eqs, w1]; exact ⟨rfl, rfl⟩)] | rw [s_cnd (by simp [lk, keepEnv, Od.v, w1]; exact rfl)] | rw [cnd_t] | rw [cnd_f] | rw [s_skip] | rw [s_ret] | rw [s_exit] | rw [C_ret] | rw [C_exit] | rw [C_skip] | rw [blk_ret] | rw [blk_norm] | rw [blk_exit] | rw [blk_exit' (by decide)] | rw [blkT_ret] | rw [blkT_norm] | rw [blkT_exit] | rw [blkT_exit' (by decide)] | rw [s_blk] | rw [s_reg (by simp [evOps, evOp_n, evOp_r, evOp_d, evOp_dr, kpo_refl, kpo_app, cnd_some, cnd_pair, cnd_cnd_t, cnd_cnd_f, cnd_same, cnd_dvb, cnd_and, cnd_or, ↓evx_pick, gd_bool, gd_boolf, gd_tup, cnd_t, cnd_f, evTo, isCall, evx, put, lk, Od.v, keepEnv, enterEnv, ldx_ref, rdc, binx, binI, binS, unx, eqk, DV.isU, DV.cells, hget, hget0, hset, hset0, stx_ref, splice, DV.one, fillp, mat, eqcs, eqs, w1]; exact ⟨rfl, rfl⟩)] | rw [t_cnd (by simp [lk, keepEnv, Od.v, w1]; exact rfl)] | rw [t_blk]))
  (try simp only [keepEnv, List.map_cons, List.map_nil, lk, reduceIte, Nat.reduceEqDiff, Nat.zero_ne_one, Nat.one_ne_zero])
  rw [c1]
  rw [e1] at w4 a2 ⊢
  (repeat (first | rw [s_assoc] | rw [s_seq_reg (by simp [evOps, evOp_n, evOp_r, evOp_d, evOp_dr, kpo_refl, kpo_app, cnd_some, cnd_pair, cnd_cnd_t, cnd_cnd_f, cnd_same, cnd_dvb, cnd_and, cnd_or, ↓evx_pick, gd_bool, gd_boolf, gd_tup, cnd_t, cnd_f, evTo, isCall, evx, put, lk, Od.v, keepEnv, enterEnv, ldx_ref, rdc, binx, binI, binS, unx, eqk, DV.isU, DV.cells, hget, hget0, hset, hset0, stx_ref, splice, DV.one, fillp, mat, eqcs, eqs, w1, w2, w3, w4, d0, a1, a2, hk', ldx]; exact ⟨rfl, rfl⟩)] | rw [s_cnd (by simp [lk, keepEnv, Od.v, w1, w2, w3, w4, d0, a1, a2, hk', ldx]; exact rfl)] | rw [cnd_t] | rw [cnd_f] | rw [s_skip] | rw [s_ret] | rw [s_exit] | rw [C_ret] | rw [C_exit] | rw [C_skip] | rw [blk_ret] | rw [blk_norm] | rw [blk_exit] | rw [blk_exit' (by decide)] | rw [blkT_ret] | rw [blkT_norm] | rw [blkT_exit] | rw [blkT_exit' (by decide)] | rw [s_blk] | rw [s_reg (by simp [evOps, evOp_n, evOp_r, evOp_d, evOp_dr, kpo_refl, kpo_app, cnd_some, cnd_pair, cnd_cnd_t, cnd_cnd_f, cnd_same, cnd_dvb, cnd_and, cnd_or, ↓evx_pick, gd_bool, gd_boolf, gd_tup, cnd_t, cnd_f, evTo, isCall, evx, put, lk, Od.v, keepEnv, enterEnv, ldx_ref, rdc, binx, binI, binS, unx, eqk, DV.isU, DV.cells, hget, hget0, hset, hset0, stx_ref, splice, DV.one, fillp, mat, eqcs, eqs, w1, w2, w3, w4, d0, a1, a2, hk', ldx]; exact ⟨rfl, rfl⟩)] | rw [t_cnd (by simp [lk, keepEnv, Od.v, w1, w2, w3, w4, d0, a1, a2, hk', ldx]; exact rfl)] | rw [t_blk]))
  simp [keepEnv, lk]
theorem run43a (i : Nat) (hi : i < 65536) (H : Heap) : E X 43 [.nils, .int .i64 i] H = some (.fresh 77 1 ((putW [] i).map uD), H) := by
  obtain ⟨g, c⟩ := body43 (H := H) (h := H) (w := .nils) (ws := []) (.inl ⟨rfl, rfl, rfl⟩) (by intro x hx; cases hx) i hi (by simp)
  rw [E_go (X := X) _ b43 _ rfl rfl]
  simp only [enterEnv]
  rw [c, ends_ret]
  simp only [resL, lk, Option.map_some, reduceIte, Option.some.injEq]
  simp only [fin]
  rw [if_pos List.take_left]
  have q1 : ∀ y ∈ (putW [] i).map uD, Nr y := by intro y hy; obtain ⟨z, _, rfl⟩ := List.mem_map.1 hy; exact .int _ _
  simp only [fz1, fz0]
  rw [if_neg (by omega), hget0]
  simp only [List.getElem?_cons_zero]
  rw [if_pos ⟨rfl, by simp, q1⟩, if_pos (by simp)]
theorem run43b {ws : List Nat} {g : Nat} (bw : WB ws) (i : Nat) (hi : i < 65536) (hb : ws.length ≤ 100000) (H : Heap) : ∃ g', E X 43 [.row H.length g 0 ws.length false, .int .i64 i] (H ++ [.row 77 1 g (ws.map uD)]) =
    some (.row H.length g' 0 (putW ws i).length false, H ++ [.row 77 1 g' ((putW ws i).map uD)]) := by
  obtain ⟨g', c⟩ := body43 (H := H) (h := H ++ [.row 77 1 g (ws.map uD)]) (w := .row H.length g 0 ws.length false) (ws := ws) (.inr ⟨g, rfl, rfl⟩) bw i hi hb
  refine ⟨g', ?_⟩
  rw [E_go (X := X) _ b43 _ rfl rfl]
  simp only [enterEnv]
  rw [c, ends_ret]
  simp only [resL, lk, Option.map_some, reduceIte, Option.some.injEq]
  simp only [fin]
  split
  · rename_i ht
    rw [List.take_of_length_le (by simp)] at ht
    simp only [fz1, fz0]
    rw [if_pos (by simp)]
    simp [ht]
  · rfl
end Go.Proofs.YtfgnefnpfgdliaaDoor
