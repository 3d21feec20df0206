/- Ideal runs: search. -/
import Derived.Test.YtmlfhjpajbmajaaPlainD
namespace Go.Proofs.Ytmlfhjpajbmajaa
set_option linter.unusedVariables false
set_option linter.unusedSimpArgs false
set_option maxRecDepth 10000
def lp41_0 : XC := .seq (.seq (.reg [⟨some 10, .mov (.t 5), none, false⟩, ⟨some 11, .mov (.t 6), none, false⟩, ⟨some 12, .bin .lss (.t 10) (.t 11), none, false⟩] [0, 1, 5, 6, 12]) (.cond (.t 12) .skip (.exit 0))) (.block 1 (.seq (.reg [⟨some 13, .mov (.t 5), none, false⟩, ⟨some 14, .mov (.t 6), none, false⟩, ⟨some 15, .bin .add (.t 13) (.t 14), none, false⟩, ⟨some 16, .bin .quo (.t 15) (.c (.int .i64 2)), none, false⟩, ⟨some 7, .mov (.t 16), none, false⟩] [0, 1, 5, 6, 7]) (.seq (.reg [⟨some 17, .mov (.t 1), none, false⟩, ⟨some 18, .mov (.t 0), none, false⟩, ⟨some 19, .mov (.t 7), none, false⟩, ⟨some 20, .iaddr 4 (.t 18) (.t 19), none, false⟩, ⟨some 21, .load true 4 (.t 20), none, false⟩, ⟨some 22, .call (.t 17) [.t 21], none, false⟩] [0, 1, 5, 6, 7, 22]) (.cond (.t 22) (.reg [⟨some 23, .mov (.t 7), none, false⟩, ⟨some 6, .mov (.t 23), none, false⟩] [0, 1, 5, 6]) (.reg [⟨some 24, .mov (.t 7), none, false⟩, ⟨some 25, .bin .add (.t 24) (.c (.int .i64 1)), none, false⟩, ⟨some 5, .mov (.t 25), none, false⟩] [0, 1, 5, 6])))))
def bs (p : Nat → Bool) (lo hi : Nat) : Nat := if h : lo < hi then (if p ((lo + hi) / 2) then bs p lo ((lo + hi) / 2) else bs p ((lo + hi) / 2 + 1) hi) else lo
termination_by hi - lo
theorem run42 (x v : V) {h : Heap} {q : Nat} {t : Nat} (hq : h[q]? = some (.box t v.d.cells)) : E X 42 [x.d, .ref q 0] h = some (.bool (decide (ord x v ≥ 0)), h) := by
  have e1 := hle hq
  rw [E_go (X := X) _ b42 _ rfl rfl]; unfold b42; (repeat (first | rw [s_assoc] | rw [s_seq_reg (by simp [evOps, evOp_n, evOp_r, evOp_d, evOp_dr, kpo_refl, kpo_app, cnd_some, cnd_pair, cnd_cnd_t, cnd_cnd_f, cnd_same, cnd_dvb, cnd_and, cnd_or, ↓evx_pick, gd_bool, gd_boolf, gd_tup, cnd_t, cnd_f, evTo, isCall, evx, put, lk, Od.v, keepEnv, enterEnv, ldx_ref, rdc, binx, binI, binS, unx, eqk, DV.isU, DV.cells, hget, hget0, hset, hset0, stx_ref, splice, DV.one, fillp, mat, eqcs, eqs, e1, run32]; exact ⟨rfl, rfl⟩)] | rw [s_cnd (by simp [lk, keepEnv, Od.v, e1, run32]; exact rfl)] | rw [cnd_t] | rw [cnd_f] | rw [s_skip] | rw [s_ret] | rw [s_exit] | rw [C_ret] | rw [C_exit] | rw [C_skip] | rw [blk_ret] | rw [blk_norm] | rw [blk_exit] | rw [blk_exit' (by decide)] | rw [blkT_ret] | rw [blkT_norm] | rw [blkT_exit] | rw [blkT_exit' (by decide)] | rw [s_blk] | rw [s_reg (by simp [evOps, evOp_n, evOp_r, evOp_d, evOp_dr, kpo_refl, kpo_app, cnd_some, cnd_pair, cnd_cnd_t, cnd_cnd_f, cnd_same, cnd_dvb, cnd_and, cnd_or, ↓evx_pick, gd_bool, gd_boolf, gd_tup, cnd_t, cnd_f, evTo, isCall, evx, put, lk, Od.v, keepEnv, enterEnv, ldx_ref, rdc, binx, binI, binS, unx, eqk, DV.isU, DV.cells, hget, hget0, hset, hset0, stx_ref, splice, DV.one, fillp, mat, eqcs, eqs, e1, run32]; exact ⟨rfl, rfl⟩)] | rw [t_cnd (by simp [lk, keepEnv, Od.v, e1, run32]; exact rfl)] | rw [t_blk])); simp [ends_ret, ends_norm, resL, evOps, evOp_n, evOp_r, evOp_d, evOp_dr, kpo_refl, kpo_app, cnd_some, cnd_pair, cnd_cnd_t, cnd_cnd_f, cnd_same, cnd_dvb, cnd_and, cnd_or, ↓evx_pick, gd_bool, gd_boolf, gd_tup, cnd_t, cnd_f, evTo, isCall, evx, put, lk, Od.v, keepEnv, enterEnv, ldx_ref, rdc, binx, binI, binS, unx, eqk, DV.isU, DV.cells, hget, hget0, hset, hset0, stx_ref, splice, DV.one, fillp, mat, eqcs, eqs, fin, fz0, fz1, fzT, fzL, nlt, e1, run32]
theorem loop41 {h : Heap} {L c : DV} {f : Nat} {xs : List V} {p : V → Bool} (hL : vw h 4 L = some (xs.map V.d)) (hb : xs.length ≤ 1000000) (hf : ∀ x ∈ xs, E X f [x.d, c] h = some (.bool (p x), h)) :
    ∀ (n lo hi : Nat), hi - lo ≤ n → lo ≤ hi → hi ≤ xs.length → ∃ e', C X (.loop lp41_0) [(0, L), (1, .func f [] [c]), (5, .int .i64 lo), (6, .int .i64 hi)] h = some (.exit 0, e', h) ∧ lk e' 5 = .int .i64 (bs (fun i => (xs[i]?.map p).getD false) lo hi : Nat) := by
  intro n
  induction n with
  | zero =>
    intro lo hi h1 h2 h3
    obtain rfl : lo = hi := by omega
    rw [t_loop]
    unfold lp41_0
    (repeat (first | rw [s_assoc] | rw [s_seq_reg (by simp [evOps, evOp_n, evOp_r, evOp_d, evOp_dr, kpo_refl, kpo_app, cnd_some, cnd_pair, cnd_cnd_t, cnd_cnd_f, cnd_same, cnd_dvb, cnd_and, cnd_or, ↓evx_pick, gd_bool, gd_boolf, gd_tup, cnd_t, cnd_f, evTo, isCall, evx, put, lk, Od.v, keepEnv, enterEnv, ldx_ref, rdc, binx, binI, binS, unx, eqk, DV.isU, DV.cells, hget, hget0, hset, hset0, stx_ref, splice, DV.one, fillp, mat, eqcs, eqs]; exact ⟨rfl, rfl⟩)] | rw [s_cnd (by simp [lk, keepEnv, Od.v]; exact rfl)] | rw [cnd_t] | rw [cnd_f] | rw [s_skip] | rw [s_ret] | rw [s_exit] | rw [C_ret] | rw [C_exit] | rw [C_skip] | rw [blk_ret] | rw [blk_norm] | rw [blk_exit] | rw [blk_exit' (by decide)] | rw [blkT_ret] | rw [blkT_norm] | rw [blkT_exit] | rw [blkT_exit' (by decide)] | rw [s_blk] | rw [s_reg (by simp [evOps, evOp_n, evOp_r, evOp_d, evOp_dr, kpo_refl, kpo_app, cnd_some, cnd_pair, cnd_cnd_t, cnd_cnd_f, cnd_same, cnd_dvb, cnd_and, cnd_or, ↓evx_pick, gd_bool, gd_boolf, gd_tup, cnd_t, cnd_f, evTo, isCall, evx, put, lk, Od.v, keepEnv, enterEnv, ldx_ref, rdc, binx, binI, binS, unx, eqk, DV.isU, DV.cells, hget, hget0, hset, hset0, stx_ref, splice, DV.one, fillp, mat, eqcs, eqs]; exact ⟨rfl, rfl⟩)] | rw [t_cnd (by simp [lk, keepEnv, Od.v]; exact rfl)] | rw [t_blk]))
    rw [lp_exit]
    refine ⟨_, rfl, ?_⟩
    rw [bs]
    simp [lk, keepEnv]
  | succ n ih =>
    intro lo hi h1 h2 h3
    by_cases hlt : lo < hi
    · obtain ⟨m, hm⟩ : ∃ m, m = (lo + hi) / 2 := ⟨_, rfl⟩
      have w0 : (lo : Int) < hi := by omega
      have w1 : IntKind.i64.wrap ((lo : Int) + hi) = (lo : Int) + hi := wrap64 _ (by omega) (by omega)
      have w2 : Int.tdiv ((lo : Int) + hi) 2 = m := by rw [Int.tdiv_eq_ediv_of_nonneg (by omega)]; omega
      have w3 : IntKind.i64.wrap (m : Int) = m := wrap64 _ (by omega) (by omega)
      have w4 : IntKind.i64.wrap ((m : Int) + 1) = ((m + 1 : Nat) : Int) := by rw [wrap64 _ (by omega) (by omega)]; rfl
      have w5 : (m : Int) < xs.length := by omega
      have w6 : m < xs.length := by omega
      have hmx : xs[m]? = some xs[m] := List.getElem?_eq_getElem (by omega)
      have hp := hf xs[m] (List.getElem_mem _)
      cases hx : p xs[m]
      · have hn : C X lp41_0 [(0, L), (1, .func f [] [c]), (5, .int .i64 lo), (6, .int .i64 hi)] h = some (.norm, [(0, L), (1, .func f [] [c]), (5, .int .i64 (m + 1 : Nat)), (6, .int .i64 hi)], h) := by
          unfold lp41_0
          rw [hx] at hp
          (repeat (first | rw [s_assoc] | rw [s_seq_reg (by simp [evOps, evOp_n, evOp_r, evOp_d, evOp_dr, kpo_refl, kpo_app, cnd_some, cnd_pair, cnd_cnd_t, cnd_cnd_f, cnd_same, cnd_dvb, cnd_and, cnd_or, ↓evx_pick, gd_bool, gd_boolf, gd_tup, cnd_t, cnd_f, evTo, isCall, evx, put, lk, Od.v, keepEnv, enterEnv, ldx_ref, rdc, binx, binI, binS, unx, eqk, DV.isU, DV.cells, hget, hget0, hset, hset0, stx_ref, splice, DV.one, fillp, mat, eqcs, eqs, w0, w1, w2, w3, w4, w5, w6, hL, hp, ldx]; exact ⟨rfl, rfl⟩)] | rw [s_cnd (by simp [lk, keepEnv, Od.v, w0, w1, w2, w3, w4, w5, w6, hL, hp, ldx]; exact rfl)] | rw [cnd_t] | rw [cnd_f] | rw [s_skip] | rw [s_ret] | rw [s_exit] | rw [C_ret] | rw [C_exit] | rw [C_skip] | rw [blk_ret] | rw [blk_norm] | rw [blk_exit] | rw [blk_exit' (by decide)] | rw [blkT_ret] | rw [blkT_norm] | rw [blkT_exit] | rw [blkT_exit' (by decide)] | rw [s_blk] | rw [s_reg (by simp [evOps, evOp_n, evOp_r, evOp_d, evOp_dr, kpo_refl, kpo_app, cnd_some, cnd_pair, cnd_cnd_t, cnd_cnd_f, cnd_same, cnd_dvb, cnd_and, cnd_or, ↓evx_pick, gd_bool, gd_boolf, gd_tup, cnd_t, cnd_f, evTo, isCall, evx, put, lk, Od.v, keepEnv, enterEnv, ldx_ref, rdc, binx, binI, binS, unx, eqk, DV.isU, DV.cells, hget, hget0, hset, hset0, stx_ref, splice, DV.one, fillp, mat, eqcs, eqs, w0, w1, w2, w3, w4, w5, w6, hL, hp, ldx]; exact ⟨rfl, rfl⟩)] | rw [t_cnd (by simp [lk, keepEnv, Od.v, w0, w1, w2, w3, w4, w5, w6, hL, hp, ldx]; exact rfl)] | rw [t_blk]))
          simp [keepEnv, lk]
        rw [t_loop, hn, lp_norm]
        obtain ⟨e', h4, h5⟩ := ih (m + 1) hi (by omega) (by omega) h3
        refine ⟨e', h4, h5.trans ?_⟩
        rw [bs.eq_1 _ lo hi, dif_pos hlt, ← hm, hmx]
        simp [hx]
      · have hn : C X lp41_0 [(0, L), (1, .func f [] [c]), (5, .int .i64 lo), (6, .int .i64 hi)] h = some (.norm, [(0, L), (1, .func f [] [c]), (5, .int .i64 lo), (6, .int .i64 m)], h) := by
          unfold lp41_0
          rw [hx] at hp
          (repeat (first | rw [s_assoc] | rw [s_seq_reg (by simp [evOps, evOp_n, evOp_r, evOp_d, evOp_dr, kpo_refl, kpo_app, cnd_some, cnd_pair, cnd_cnd_t, cnd_cnd_f, cnd_same, cnd_dvb, cnd_and, cnd_or, ↓evx_pick, gd_bool, gd_boolf, gd_tup, cnd_t, cnd_f, evTo, isCall, evx, put, lk, Od.v, keepEnv, enterEnv, ldx_ref, rdc, binx, binI, binS, unx, eqk, DV.isU, DV.cells, hget, hget0, hset, hset0, stx_ref, splice, DV.one, fillp, mat, eqcs, eqs, w0, w1, w2, w3, w4, w5, w6, hL, hp, ldx]; exact ⟨rfl, rfl⟩)] | rw [s_cnd (by simp [lk, keepEnv, Od.v, w0, w1, w2, w3, w4, w5, w6, hL, hp, ldx]; exact rfl)] | rw [cnd_t] | rw [cnd_f] | rw [s_skip] | rw [s_ret] | rw [s_exit] | rw [C_ret] | rw [C_exit] | rw [C_skip] | rw [blk_ret] | rw [blk_norm] | rw [blk_exit] | rw [blk_exit' (by decide)] | rw [blkT_ret] | rw [blkT_norm] | rw [blkT_exit] | rw [blkT_exit' (by decide)] | rw [s_blk] | rw [s_reg (by simp [evOps, evOp_n, evOp_r, evOp_d, evOp_dr, kpo_refl, kpo_app, cnd_some, cnd_pair, cnd_cnd_t, cnd_cnd_f, cnd_same, cnd_dvb, cnd_and, cnd_or, ↓evx_pick, gd_bool, gd_boolf, gd_tup, cnd_t, cnd_f, evTo, isCall, evx, put, lk, Od.v, keepEnv, enterEnv, ldx_ref, rdc, binx, binI, binS, unx, eqk, DV.isU, DV.cells, hget, hget0, hset, hset0, stx_ref, splice, DV.one, fillp, mat, eqcs, eqs, w0, w1, w2, w3, w4, w5, w6, hL, hp, ldx]; exact ⟨rfl, rfl⟩)] | rw [t_cnd (by simp [lk, keepEnv, Od.v, w0, w1, w2, w3, w4, w5, w6, hL, hp, ldx]; exact rfl)] | rw [t_blk]))
          simp [keepEnv, lk]
        rw [t_loop, hn, lp_norm]
        obtain ⟨e', h4, h5⟩ := ih lo m (by omega) (by omega) (by omega)
        refine ⟨e', h4, h5.trans ?_⟩
        rw [bs.eq_1 _ lo hi, dif_pos hlt, ← hm, hmx]
        simp [hx]
    · exact ih lo hi (by omega) h2 h3
theorem run41 {h : Heap} {L c : DV} {f : Nat} {xs : List V} {p : V → Bool} (hL : vw h 4 L = some (xs.map V.d)) (hb : xs.length ≤ 1000000) (hf : ∀ x ∈ xs, E X f [x.d, c] h = some (.bool (p x), h)) :
    E X 41 [L, .func f [] [c]] h = some (.int .i64 (bs (fun i => (xs[i]?.map p).getD false) 0 xs.length : Nat), h) := by
  obtain ⟨e', h1, h2⟩ := loop41 hL hb hf xs.length 0 xs.length (by omega) (by omega) (by omega)
  unfold lp41_0 at h1
  rw [E_go (X := X) _ b41 _ rfl rfl]; unfold b41
  (repeat (first | rw [s_assoc] | rw [s_seq_reg (by simp [evOps, evOp_n, evOp_r, evOp_d, evOp_dr, kpo_refl, kpo_app, cnd_some, cnd_pair, cnd_cnd_t, cnd_cnd_f, cnd_same, cnd_dvb, cnd_and, cnd_or, ↓evx_pick, gd_bool, gd_boolf, gd_tup, cnd_t, cnd_f, evTo, isCall, evx, put, lk, Od.v, keepEnv, enterEnv, ldx_ref, rdc, binx, binI, binS, unx, eqk, DV.isU, DV.cells, hget, hget0, hset, hset0, stx_ref, splice, DV.one, fillp, mat, eqcs, eqs, hL]; exact ⟨rfl, rfl⟩)] | rw [s_cnd (by simp [lk, keepEnv, Od.v, hL]; exact rfl)] | rw [cnd_t] | rw [cnd_f] | rw [s_skip] | rw [s_ret] | rw [s_exit] | rw [C_ret] | rw [C_exit] | rw [C_skip] | rw [blk_ret] | rw [blk_norm] | rw [blk_exit] | rw [blk_exit' (by decide)] | rw [blkT_ret] | rw [blkT_norm] | rw [blkT_exit] | rw [blkT_exit' (by decide)] | rw [s_blk] | rw [s_reg (by simp [evOps, evOp_n, evOp_r, evOp_d, evOp_dr, kpo_refl, kpo_app, cnd_some, cnd_pair, cnd_cnd_t, cnd_cnd_f, cnd_same, cnd_dvb, cnd_and, cnd_or, ↓evx_pick, gd_bool, gd_boolf, gd_tup, cnd_t, cnd_f, evTo, isCall, evx, put, lk, Od.v, keepEnv, enterEnv, ldx_ref, rdc, binx, binI, binS, unx, eqk, DV.isU, DV.cells, hget, hget0, hset, hset0, stx_ref, splice, DV.one, fillp, mat, eqcs, eqs, hL]; exact ⟨rfl, rfl⟩)] | rw [t_cnd (by simp [lk, keepEnv, Od.v, hL]; exact rfl)] | rw [t_blk]))
  simp [keepEnv, lk]
  simp at h1
  rw [h1]
  (repeat (first | rw [s_assoc] | rw [s_seq_reg (by simp [evOps, evOp_n, evOp_r, evOp_d, evOp_dr, kpo_refl, kpo_app, cnd_some, cnd_pair, cnd_cnd_t, cnd_cnd_f, cnd_same, cnd_dvb, cnd_and, cnd_or, ↓evx_pick, gd_bool, gd_boolf, gd_tup, cnd_t, cnd_f, evTo, isCall, evx, put, lk, Od.v, keepEnv, enterEnv, ldx_ref, rdc, binx, binI, binS, unx, eqk, DV.isU, DV.cells, hget, hget0, hset, hset0, stx_ref, splice, DV.one, fillp, mat, eqcs, eqs, h2]; exact ⟨rfl, rfl⟩)] | rw [s_cnd (by simp [lk, keepEnv, Od.v, h2]; exact rfl)] | rw [cnd_t] | rw [cnd_f] | rw [s_skip] | rw [s_ret] | rw [s_exit] | rw [C_ret] | rw [C_exit] | rw [C_skip] | rw [blk_ret] | rw [blk_norm] | rw [blk_exit] | rw [blk_exit' (by decide)] | rw [blkT_ret] | rw [blkT_norm] | rw [blkT_exit] | rw [blkT_exit' (by decide)] | rw [s_blk] | rw [s_reg (by simp [evOps, evOp_n, evOp_r, evOp_d, evOp_dr, kpo_refl, kpo_app, cnd_some, cnd_pair, cnd_cnd_t, cnd_cnd_f, cnd_same, cnd_dvb, cnd_and, cnd_or, ↓evx_pick, gd_bool, gd_boolf, gd_tup, cnd_t, cnd_f, evTo, isCall, evx, put, lk, Od.v, keepEnv, enterEnv, ldx_ref, rdc, binx, binI, binS, unx, eqk, DV.isU, DV.cells, hget, hget0, hset, hset0, stx_ref, splice, DV.one, fillp, mat, eqcs, eqs, h2]; exact ⟨rfl, rfl⟩)] | rw [t_cnd (by simp [lk, keepEnv, Od.v, h2]; exact rfl)] | rw [t_blk]))
  simp [ends_ret, ends_norm, resL, evOps, evOp_n, evOp_r, evOp_d, evOp_dr, kpo_refl, kpo_app, cnd_some, cnd_pair, cnd_cnd_t, cnd_cnd_f, cnd_same, cnd_dvb, cnd_and, cnd_or, ↓evx_pick, gd_bool, gd_boolf, gd_tup, cnd_t, cnd_f, evTo, isCall, evx, put, lk, Od.v, keepEnv, enterEnv, ldx_ref, rdc, binx, binI, binS, unx, eqk, DV.isU, DV.cells, hget, hget0, hset, hset0, stx_ref, splice, DV.one, fillp, mat, eqcs, eqs, fin, fz0, fz1, fzT, fzL, nlt, h2]
end Go.Proofs.Ytmlfhjpajbmajaa
