/- Ideal runs: the document's dictionary. -/
import Derived.Test.YtmlfhjpajbmajaaPlainS
namespace Go.Proofs.Ytmlfhjpajbmajaa
set_option linter.unusedVariables false
set_option linter.unusedSimpArgs false
set_option maxRecDepth 10000
def lp3_0 : XC := .seq (.seq (.reg [⟨some 51, .mov (.t 14), none, false⟩, ⟨some 52, .mov (.t 1), none, false⟩, ⟨some 53, .len 4 (.t 52), none, false⟩, ⟨some 54, .bin .lss (.t 51) (.t 53), none, false⟩] [0, 1, 3, 6, 12, 13, 14, 54]) (.cond (.t 54) .skip (.exit 0))) (.seq (.block 1 (.seq (.reg [⟨some 58, .mov (.t 12), none, false⟩, ⟨some 59, .mov (.t 1), none, false⟩, ⟨some 60, .mov (.t 14), none, false⟩, ⟨some 61, .iaddr 4 (.t 59) (.t 60), none, false⟩, ⟨some 62, .load true 4 (.t 61), none, false⟩, ⟨some 63, .call (.c (.func 12 [] [])) [.t 58, .t 62], none, false⟩, ⟨some 57, .mov (.t 63), none, false⟩, ⟨some 64, .ext (.t 57) 0, none, false⟩, ⟨some 65, .ext (.t 57) 1, none, false⟩, ⟨some 15, .mov (.t 64), none, false⟩, ⟨some 16, .mov (.t 65), none, false⟩] [0, 1, 3, 6, 12, 13, 14, 15, 16]) (.seq (.reg [⟨some 67, .mov (.t 13), none, false⟩, ⟨some 68, .mov (.t 0), none, false⟩, ⟨some 69, .mov (.t 1), none, false⟩, ⟨some 70, .mov (.t 14), none, false⟩, ⟨some 71, .iaddr 4 (.t 69) (.t 70), none, false⟩, ⟨some 72, .load true 4 (.t 71), none, false⟩, ⟨some 73, .call (.c (.func 13 [] [])) [.t 67, .t 68, .t 72], none, false⟩, ⟨some 66, .mov (.t 73), none, false⟩, ⟨some 74, .ext (.t 66) 0, none, false⟩, ⟨some 75, .ext (.t 66) 1, none, false⟩, ⟨some 76, .ext (.t 66) 2, none, false⟩, ⟨some 17, .mov (.t 74), none, false⟩, ⟨some 18, .mov (.t 75), none, false⟩, ⟨some 19, .mov (.t 76), none, false⟩] [0, 1, 3, 6, 12, 14, 15, 16, 17, 18, 19]) (.seq (.reg [⟨some 77, .mov (.t 17), none, false⟩, ⟨some 13, .mov (.t 77), none, false⟩] [0, 1, 3, 6, 12, 13, 14, 15, 16, 18, 19]) (.seq (.reg [⟨some 78, .mov (.t 15), none, false⟩, ⟨some 79, .mov (.t 18), none, false⟩, ⟨some 80, .bin .neq (.t 78) (.t 79), none, false⟩, ⟨some 81, .mov (.t 80), none, false⟩, ⟨some 82, .mov (.t 16), some (81, false), false⟩, ⟨some 83, .mov (.t 19), some (81, false), false⟩, ⟨some 84, .bin .neq (.t 82) (.t 83), some (81, false), false⟩, ⟨some 85, .pick (.t 81) (.c (.bool true)) (.t 84), none, false⟩, ⟨some 86, .mov (.t 85), none, false⟩, ⟨some 87, .mov (.t 12), some (86, false), false⟩, ⟨some 88, .call (.c (.func 14 [] [])) [.t 87], some (86, false), false⟩, ⟨some 89, .mov (.t 13), some (86, false), false⟩, ⟨some 90, .len 4 (.t 89), some (86, false), false⟩, ⟨some 91, .bin .neq (.t 88) (.t 90), some (86, false), false⟩, ⟨some 92, .pick (.t 86) (.c (.bool true)) (.t 91), none, false⟩] [0, 1, 3, 6, 12, 13, 14, 92]) (.cond (.t 92) (.seq (.reg [⟨some 8, .mov (.c (.bool false)), none, false⟩] [8]) .ret) .skip)))))) (.reg [⟨some 55, .mov (.t 14), none, false⟩, ⟨some 56, .bin .add (.t 55) (.c (.int .i64 1)), none, false⟩, ⟨some 14, .mov (.t 56), none, false⟩] [0, 1, 3, 6, 12, 13, 14]))
def lp19_0 : XC := .seq (.seq (.reg [⟨some 13, .mov (.t 6), none, false⟩, ⟨some 14, .mov (.t 0), none, false⟩, ⟨some 15, .len 4 (.t 14), none, false⟩, ⟨some 16, .bin .lss (.t 13) (.t 15), none, false⟩] [0, 4, 5, 6, 16]) (.cond (.t 16) .skip (.exit 0))) (.seq (.block 1 (.seq (.reg [⟨some 19, .mov (.t 5), none, false⟩, ⟨some 20, .mov (.t 6), none, false⟩, ⟨some 21, .mov (.t 0), none, false⟩, ⟨some 22, .mov (.t 0), none, false⟩, ⟨some 23, .mov (.t 6), none, false⟩, ⟨some 24, .iaddr 4 (.t 22) (.t 23), none, false⟩, ⟨some 25, .load true 4 (.t 24), none, false⟩, ⟨some 26, .call (.c (.func 34 [] [])) [.t 21, .t 25], none, false⟩, ⟨some 27, .iaddr 1 (.t 19) (.t 20), none, false⟩, ⟨none, .store 1 (.t 27) (.t 26), none, false⟩] [0, 4, 5, 6]) (.reg [⟨some 28, .mov (.t 4), none, false⟩, ⟨some 29, .mov (.t 5), none, false⟩, ⟨some 30, .mov (.t 6), none, false⟩, ⟨some 31, .iaddr 1 (.t 29) (.t 30), none, false⟩, ⟨some 32, .load false 1 (.t 31), none, false⟩, ⟨some 33, .mov (.t 0), none, false⟩, ⟨some 34, .mov (.t 6), none, false⟩, ⟨some 35, .iaddr 4 (.t 33) (.t 34), none, false⟩, ⟨some 36, .load true 4 (.t 35), none, false⟩, ⟨some 37, .iaddr 4 (.t 28) (.t 32), none, false⟩, ⟨none, .store 4 (.t 37) (.t 36), none, false⟩] [0, 4, 5, 6]))) (.reg [⟨some 17, .mov (.t 6), none, false⟩, ⟨some 18, .bin .add (.t 17) (.c (.int .i64 1)), none, false⟩, ⟨some 6, .mov (.t 18), none, false⟩] [0, 4, 5, 6]))
theorem run10x (h : Heap) {A : DV} {xs : List V} (hA : A = .list 4 (xs.map V.d) false ∨ (A = .nils ∧ xs = [])) : ∃ b, E X 10 [A] h = some (.bool b, h) ∧ (b = true → xs.length ≤ 100) := by
  rcases hA with rfl | ⟨rfl, rfl⟩
  · exact run10 h xs false
  · exact ⟨true, run10n h, fun _ => by simp⟩
theorem loop34x {H : Heap} {A : DV} {xs : List V} {v : V} {q t : Nat} (hA : vw H 4 A = some (xs.map V.d)) (hq : H[q]? = some (.box t v.d.cells)) (hb : xs.length ≤ 1000000) (hsm : ∀ x ∈ xs, Sm x) (hv : Sm v) : ∀ (k i n : Nat), xs.length - i ≤ k → i ≤ xs.length → n ≤ i →
    ∃ e', C X (.loop lp34_0) [(0, A), (3, .ref q 0), (5, .int .i64 n), (6, .int .i64 i)] H = some (.exit 0, e', H) ∧ lk e' 5 = .int .i64 ((n + (xs.drop i).countP fun x => decide (ord x v < 0) : Nat)) := by
  have hq' : H[q]? = some (.box t [.int .i64 v.k, .int .i64 v.n, .str v.s, .bool v.t]) := hq
  intro k
  induction k with
  | zero =>
    intro i n hk hi hn
    obtain rfl : i = xs.length := by omega
    rw [t_loop]
    unfold lp34_0
    (repeat (first | rw [s_assoc] | rw [s_seq_reg (by simp [evOps, evOp_n, evOp_r, evOp_d, evOp_dr, kpo_refl, kpo_app, cnd_some, cnd_pair, cnd_cnd_t, cnd_cnd_f, cnd_same, cnd_dvb, cnd_and, cnd_or, ↓evx_pick, gd_bool, gd_boolf, gd_tup, cnd_t, cnd_f, evTo, isCall, evx, put, lk, Od.v, keepEnv, enterEnv, ldx_ref, rdc, binx, binI, binS, unx, eqk, DV.isU, DV.cells, hget, hget0, hset, hset0, stx_ref, splice, DV.one, fillp, mat, eqcs, eqs, hA]; exact ⟨rfl, rfl⟩)] | rw [s_cnd (by simp [lk, keepEnv, Od.v, hA]; exact rfl)] | rw [cnd_t] | rw [cnd_f] | rw [s_skip] | rw [s_ret] | rw [s_exit] | rw [C_ret] | rw [C_exit] | rw [C_skip] | rw [blk_ret] | rw [blk_norm] | rw [blk_exit] | rw [blk_exit' (by decide)] | rw [blkT_ret] | rw [blkT_norm] | rw [blkT_exit] | rw [blkT_exit' (by decide)] | rw [s_blk] | rw [s_reg (by simp [evOps, evOp_n, evOp_r, evOp_d, evOp_dr, kpo_refl, kpo_app, cnd_some, cnd_pair, cnd_cnd_t, cnd_cnd_f, cnd_same, cnd_dvb, cnd_and, cnd_or, ↓evx_pick, gd_bool, gd_boolf, gd_tup, cnd_t, cnd_f, evTo, isCall, evx, put, lk, Od.v, keepEnv, enterEnv, ldx_ref, rdc, binx, binI, binS, unx, eqk, DV.isU, DV.cells, hget, hget0, hset, hset0, stx_ref, splice, DV.one, fillp, mat, eqcs, eqs, hA]; exact ⟨rfl, rfl⟩)] | rw [t_cnd (by simp [lk, keepEnv, Od.v, hA]; exact rfl)] | rw [t_blk]))
    rw [lp_exit]
    exact ⟨_, rfl, by simp [keepEnv, lk]⟩
  | succ k ih =>
    intro i n hk hi hn
    by_cases w0 : i < xs.length
    · obtain ⟨I, hI⟩ : ∃ I, I = i + 1 := ⟨_, rfl⟩
      obtain ⟨N, hN⟩ : ∃ N, N = n + 1 := ⟨_, rfl⟩
      have w1 : IntKind.i64.wrap ((i : Int) + 1) = (I : Int) := by rw [wrap64 _ (by omega) (by omega)]; omega
      have w2 : IntKind.i64.wrap ((n : Int) + 1) = (N : Int) := by rw [wrap64 _ (by omega) (by omega)]; omega
      have d1 : xs.drop i = xs[i] :: xs.drop (i + 1) := List.drop_eq_getElem_cons w0
      have e1 := run27 xs[i] v (hsm _ (List.getElem_mem _)) hv
      by_cases ho : ord xs[i] v < 0
      · have hs : C X lp34_0 [(0, A), (3, .ref q 0), (5, .int .i64 n), (6, .int .i64 i)] H = some (.norm, [(0, A), (3, .ref q 0), (5, .int .i64 N), (6, .int .i64 I)], H) := by
          unfold lp34_0
          (repeat (first | rw [s_assoc] | rw [s_seq_reg (by simp [evOps, evOp_n, evOp_r, evOp_d, evOp_dr, kpo_refl, kpo_app, cnd_some, cnd_pair, cnd_cnd_t, cnd_cnd_f, cnd_same, cnd_dvb, cnd_and, cnd_or, ↓evx_pick, gd_bool, gd_boolf, gd_tup, cnd_t, cnd_f, evTo, isCall, evx, put, lk, Od.v, keepEnv, enterEnv, ldx_ref, rdc, binx, binI, binS, unx, eqk, DV.isU, DV.cells, hget, hget0, hset, hset0, stx_ref, splice, DV.one, fillp, mat, eqcs, eqs, hA, w0, w1, w2, hq', ldx, e1, ho]; exact ⟨rfl, rfl⟩)] | rw [s_cnd (by simp [lk, keepEnv, Od.v, hA, w0, w1, w2, hq', ldx, e1, ho]; exact rfl)] | rw [cnd_t] | rw [cnd_f] | rw [s_skip] | rw [s_ret] | rw [s_exit] | rw [C_ret] | rw [C_exit] | rw [C_skip] | rw [blk_ret] | rw [blk_norm] | rw [blk_exit] | rw [blk_exit' (by decide)] | rw [blkT_ret] | rw [blkT_norm] | rw [blkT_exit] | rw [blkT_exit' (by decide)] | rw [s_blk] | rw [s_reg (by simp [evOps, evOp_n, evOp_r, evOp_d, evOp_dr, kpo_refl, kpo_app, cnd_some, cnd_pair, cnd_cnd_t, cnd_cnd_f, cnd_same, cnd_dvb, cnd_and, cnd_or, ↓evx_pick, gd_bool, gd_boolf, gd_tup, cnd_t, cnd_f, evTo, isCall, evx, put, lk, Od.v, keepEnv, enterEnv, ldx_ref, rdc, binx, binI, binS, unx, eqk, DV.isU, DV.cells, hget, hget0, hset, hset0, stx_ref, splice, DV.one, fillp, mat, eqcs, eqs, hA, w0, w1, w2, hq', ldx, e1, ho]; exact ⟨rfl, rfl⟩)] | rw [t_cnd (by simp [lk, keepEnv, Od.v, hA, w0, w1, w2, hq', ldx, e1, ho]; exact rfl)] | rw [t_blk]))
          simp [keepEnv, lk]
        rw [t_loop, hs, lp_norm]
        obtain ⟨e', h1, h2⟩ := ih I N (by omega) (by omega) (by omega)
        refine ⟨e', h1, h2.trans ?_⟩
        rw [d1, hI, List.countP_cons_of_pos (by simpa using ho), hN]
        simp; omega
      · have hs : C X lp34_0 [(0, A), (3, .ref q 0), (5, .int .i64 n), (6, .int .i64 i)] H = some (.norm, [(0, A), (3, .ref q 0), (5, .int .i64 n), (6, .int .i64 I)], H) := by
          unfold lp34_0
          (repeat (first | rw [s_assoc] | rw [s_seq_reg (by simp [evOps, evOp_n, evOp_r, evOp_d, evOp_dr, kpo_refl, kpo_app, cnd_some, cnd_pair, cnd_cnd_t, cnd_cnd_f, cnd_same, cnd_dvb, cnd_and, cnd_or, ↓evx_pick, gd_bool, gd_boolf, gd_tup, cnd_t, cnd_f, evTo, isCall, evx, put, lk, Od.v, keepEnv, enterEnv, ldx_ref, rdc, binx, binI, binS, unx, eqk, DV.isU, DV.cells, hget, hget0, hset, hset0, stx_ref, splice, DV.one, fillp, mat, eqcs, eqs, hA, w0, w1, w2, hq', ldx, e1, ho]; exact ⟨rfl, rfl⟩)] | rw [s_cnd (by simp [lk, keepEnv, Od.v, hA, w0, w1, w2, hq', ldx, e1, ho]; exact rfl)] | rw [cnd_t] | rw [cnd_f] | rw [s_skip] | rw [s_ret] | rw [s_exit] | rw [C_ret] | rw [C_exit] | rw [C_skip] | rw [blk_ret] | rw [blk_norm] | rw [blk_exit] | rw [blk_exit' (by decide)] | rw [blkT_ret] | rw [blkT_norm] | rw [blkT_exit] | rw [blkT_exit' (by decide)] | rw [s_blk] | rw [s_reg (by simp [evOps, evOp_n, evOp_r, evOp_d, evOp_dr, kpo_refl, kpo_app, cnd_some, cnd_pair, cnd_cnd_t, cnd_cnd_f, cnd_same, cnd_dvb, cnd_and, cnd_or, ↓evx_pick, gd_bool, gd_boolf, gd_tup, cnd_t, cnd_f, evTo, isCall, evx, put, lk, Od.v, keepEnv, enterEnv, ldx_ref, rdc, binx, binI, binS, unx, eqk, DV.isU, DV.cells, hget, hget0, hset, hset0, stx_ref, splice, DV.one, fillp, mat, eqcs, eqs, hA, w0, w1, w2, hq', ldx, e1, ho]; exact ⟨rfl, rfl⟩)] | rw [t_cnd (by simp [lk, keepEnv, Od.v, hA, w0, w1, w2, hq', ldx, e1, ho]; exact rfl)] | rw [t_blk]))
          simp [keepEnv, lk]
        rw [t_loop, hs, lp_norm]
        obtain ⟨e', h1, h2⟩ := ih I n (by omega) (by omega) (by omega)
        refine ⟨e', h1, h2.trans ?_⟩
        rw [d1, hI, List.countP_cons_of_neg (by simpa using ho)]
    · exact ih i n (by omega) hi hn
theorem run34x {h : Heap} {A : DV} {xs : List V} (v : V) (hA : ∀ l, vw (h ++ l) 4 A = some (xs.map V.d)) (hb : xs.length ≤ 1000000) (hsm : ∀ x ∈ xs, Sm x) (hv : Sm v) : E X 34 [A, v.d] h = some (.int .i64 ((xs.countP fun x => decide (ord x v < 0) : Nat)), h) := by
  obtain ⟨e', h2, h3⟩ := loop34x (H := h ++ [HO.box 24 [.int .i64 v.k, .int .i64 v.n, .str v.s, .bool v.t]]) (A := A) (xs := xs) (v := v) (q := h.length) (t := 24) (hA _) (by simp [DV.cells]) hb hsm hv xs.length 0 0 (by omega) (by omega) (by omega)
  rw [List.drop_zero, Nat.zero_add] at h3
  rw [show ((0 : Nat) : Int) = 0 from rfl] at h2
  unfold lp34_0 at h2
  rw [E_go (X := X) _ b34 _ rfl rfl]; unfold b34
  (repeat (first | rw [s_assoc] | rw [s_seq_reg (by simp [evOps, evOp_n, evOp_r, evOp_d, evOp_dr, kpo_refl, kpo_app, cnd_some, cnd_pair, cnd_cnd_t, cnd_cnd_f, cnd_same, cnd_dvb, cnd_and, cnd_or, ↓evx_pick, gd_bool, gd_boolf, gd_tup, cnd_t, cnd_f, evTo, isCall, evx, put, lk, Od.v, keepEnv, enterEnv, ldx_ref, rdc, binx, binI, binS, unx, eqk, DV.isU, DV.cells, hget, hget0, hset, hset0, stx_ref, splice, DV.one, fillp, mat, eqcs, eqs]; exact ⟨rfl, rfl⟩)] | rw [s_cnd (by simp [lk, keepEnv, Od.v]; exact rfl)] | rw [cnd_t] | rw [cnd_f] | rw [s_skip] | rw [s_ret] | rw [s_exit] | rw [C_ret] | rw [C_exit] | rw [C_skip] | rw [blk_ret] | rw [blk_norm] | rw [blk_exit] | rw [blk_exit' (by decide)] | rw [blkT_ret] | rw [blkT_norm] | rw [blkT_exit] | rw [blkT_exit' (by decide)] | rw [s_blk] | rw [s_reg (by simp [evOps, evOp_n, evOp_r, evOp_d, evOp_dr, kpo_refl, kpo_app, cnd_some, cnd_pair, cnd_cnd_t, cnd_cnd_f, cnd_same, cnd_dvb, cnd_and, cnd_or, ↓evx_pick, gd_bool, gd_boolf, gd_tup, cnd_t, cnd_f, evTo, isCall, evx, put, lk, Od.v, keepEnv, enterEnv, ldx_ref, rdc, binx, binI, binS, unx, eqk, DV.isU, DV.cells, hget, hget0, hset, hset0, stx_ref, splice, DV.one, fillp, mat, eqcs, eqs]; exact ⟨rfl, rfl⟩)] | rw [t_cnd (by simp [lk, keepEnv, Od.v]; exact rfl)] | rw [t_blk]))
  (try simp only [keepEnv, List.map_cons, List.map_nil, lk, reduceIte, Nat.reduceEqDiff, Nat.zero_ne_one, Nat.one_ne_zero])
  rw [h2]
  (repeat (first | rw [s_assoc] | rw [s_seq_reg (by simp [evOps, evOp_n, evOp_r, evOp_d, evOp_dr, kpo_refl, kpo_app, cnd_some, cnd_pair, cnd_cnd_t, cnd_cnd_f, cnd_same, cnd_dvb, cnd_and, cnd_or, ↓evx_pick, gd_bool, gd_boolf, gd_tup, cnd_t, cnd_f, evTo, isCall, evx, put, lk, Od.v, keepEnv, enterEnv, ldx_ref, rdc, binx, binI, binS, unx, eqk, DV.isU, DV.cells, hget, hget0, hset, hset0, stx_ref, splice, DV.one, fillp, mat, eqcs, eqs, h3]; exact ⟨rfl, rfl⟩)] | rw [s_cnd (by simp [lk, keepEnv, Od.v, h3]; exact rfl)] | rw [cnd_t] | rw [cnd_f] | rw [s_skip] | rw [s_ret] | rw [s_exit] | rw [C_ret] | rw [C_exit] | rw [C_skip] | rw [blk_ret] | rw [blk_norm] | rw [blk_exit] | rw [blk_exit' (by decide)] | rw [blkT_ret] | rw [blkT_norm] | rw [blkT_exit] | rw [blkT_exit' (by decide)] | rw [s_blk] | rw [s_reg (by simp [evOps, evOp_n, evOp_r, evOp_d, evOp_dr, kpo_refl, kpo_app, cnd_some, cnd_pair, cnd_cnd_t, cnd_cnd_f, cnd_same, cnd_dvb, cnd_and, cnd_or, ↓evx_pick, gd_bool, gd_boolf, gd_tup, cnd_t, cnd_f, evTo, isCall, evx, put, lk, Od.v, keepEnv, enterEnv, ldx_ref, rdc, binx, binI, binS, unx, eqk, DV.isU, DV.cells, hget, hget0, hset, hset0, stx_ref, splice, DV.one, fillp, mat, eqcs, eqs, h3]; exact ⟨rfl, rfl⟩)] | rw [t_cnd (by simp [lk, keepEnv, Od.v, h3]; exact rfl)] | rw [t_blk]))
  simp [ends_ret, ends_norm, resL, evOps, evOp_n, evOp_r, evOp_d, evOp_dr, kpo_refl, kpo_app, cnd_some, cnd_pair, cnd_cnd_t, cnd_cnd_f, cnd_same, cnd_dvb, cnd_and, cnd_or, ↓evx_pick, gd_bool, gd_boolf, gd_tup, cnd_t, cnd_f, evTo, isCall, evx, put, lk, Od.v, keepEnv, enterEnv, ldx_ref, rdc, binx, binI, binS, unx, eqk, DV.isU, DV.cells, hget, hget0, hset, hset0, stx_ref, splice, DV.one, fillp, mat, eqcs, eqs, fin, fz0, fz1, fzT, fzL, nlt]
theorem loop20x {h : Heap} {A B : DV} {xs : List V} (hA : vw h 4 A = some (xs.map V.d)) (hB : vw h 4 B = some (xs.map V.d)) (hb : xs.length ≤ 1000000) :
    ∀ (k i : Nat), xs.length - i ≤ k → i ≤ xs.length → ∃ e', C X (.loop lp20_0) [(0, A), (1, B), (5, .int .i64 i)] h = some (.exit 0, e', h) := by
  intro k
  induction k with
  | zero =>
    intro i hk hi
    obtain rfl : i = xs.length := by omega
    rw [t_loop]
    unfold lp20_0
    (repeat (first | rw [s_assoc] | rw [s_seq_reg (by simp [evOps, evOp_n, evOp_r, evOp_d, evOp_dr, kpo_refl, kpo_app, cnd_some, cnd_pair, cnd_cnd_t, cnd_cnd_f, cnd_same, cnd_dvb, cnd_and, cnd_or, ↓evx_pick, gd_bool, gd_boolf, gd_tup, cnd_t, cnd_f, evTo, isCall, evx, put, lk, Od.v, keepEnv, enterEnv, ldx_ref, rdc, binx, binI, binS, unx, eqk, DV.isU, DV.cells, hget, hget0, hset, hset0, stx_ref, splice, DV.one, fillp, mat, eqcs, eqs, hA]; exact ⟨rfl, rfl⟩)] | rw [s_cnd (by simp [lk, keepEnv, Od.v, hA]; exact rfl)] | rw [cnd_t] | rw [cnd_f] | rw [s_skip] | rw [s_ret] | rw [s_exit] | rw [C_ret] | rw [C_exit] | rw [C_skip] | rw [blk_ret] | rw [blk_norm] | rw [blk_exit] | rw [blk_exit' (by decide)] | rw [blkT_ret] | rw [blkT_norm] | rw [blkT_exit] | rw [blkT_exit' (by decide)] | rw [s_blk] | rw [s_reg (by simp [evOps, evOp_n, evOp_r, evOp_d, evOp_dr, kpo_refl, kpo_app, cnd_some, cnd_pair, cnd_cnd_t, cnd_cnd_f, cnd_same, cnd_dvb, cnd_and, cnd_or, ↓evx_pick, gd_bool, gd_boolf, gd_tup, cnd_t, cnd_f, evTo, isCall, evx, put, lk, Od.v, keepEnv, enterEnv, ldx_ref, rdc, binx, binI, binS, unx, eqk, DV.isU, DV.cells, hget, hget0, hset, hset0, stx_ref, splice, DV.one, fillp, mat, eqcs, eqs, hA]; exact ⟨rfl, rfl⟩)] | rw [t_cnd (by simp [lk, keepEnv, Od.v, hA]; exact rfl)] | rw [t_blk]))
    rw [lp_exit]
    exact ⟨_, rfl⟩
  | succ k ih =>
    intro i hk hi
    by_cases w0 : i < xs.length
    · obtain ⟨I, hI⟩ : ∃ I, I = i + 1 := ⟨_, rfl⟩
      have w1 : IntKind.i64.wrap ((i : Int) + 1) = (I : Int) := (by rw [wrap64 _ (by omega) (by omega)]; omega)
      have hs : C X lp20_0 [(0, A), (1, B), (5, .int .i64 i)] h = some (.norm, [(0, A), (1, B), (5, .int .i64 I)], h) := by
        unfold lp20_0
        (repeat (first | rw [s_assoc] | rw [s_seq_reg (by simp [evOps, evOp_n, evOp_r, evOp_d, evOp_dr, kpo_refl, kpo_app, cnd_some, cnd_pair, cnd_cnd_t, cnd_cnd_f, cnd_same, cnd_dvb, cnd_and, cnd_or, ↓evx_pick, gd_bool, gd_boolf, gd_tup, cnd_t, cnd_f, evTo, isCall, evx, put, lk, Od.v, keepEnv, enterEnv, ldx_ref, rdc, binx, binI, binS, unx, eqk, DV.isU, DV.cells, hget, hget0, hset, hset0, stx_ref, splice, DV.one, fillp, mat, eqcs, eqs, hA, hB, w0, w1, ldx, beq_bytes]; exact ⟨rfl, rfl⟩)] | rw [s_cnd (by simp [lk, keepEnv, Od.v, hA, hB, w0, w1, ldx, beq_bytes]; exact rfl)] | rw [cnd_t] | rw [cnd_f] | rw [s_skip] | rw [s_ret] | rw [s_exit] | rw [C_ret] | rw [C_exit] | rw [C_skip] | rw [blk_ret] | rw [blk_norm] | rw [blk_exit] | rw [blk_exit' (by decide)] | rw [blkT_ret] | rw [blkT_norm] | rw [blkT_exit] | rw [blkT_exit' (by decide)] | rw [s_blk] | rw [s_reg (by simp [evOps, evOp_n, evOp_r, evOp_d, evOp_dr, kpo_refl, kpo_app, cnd_some, cnd_pair, cnd_cnd_t, cnd_cnd_f, cnd_same, cnd_dvb, cnd_and, cnd_or, ↓evx_pick, gd_bool, gd_boolf, gd_tup, cnd_t, cnd_f, evTo, isCall, evx, put, lk, Od.v, keepEnv, enterEnv, ldx_ref, rdc, binx, binI, binS, unx, eqk, DV.isU, DV.cells, hget, hget0, hset, hset0, stx_ref, splice, DV.one, fillp, mat, eqcs, eqs, hA, hB, w0, w1, ldx, beq_bytes]; exact ⟨rfl, rfl⟩)] | rw [t_cnd (by simp [lk, keepEnv, Od.v, hA, hB, w0, w1, ldx, beq_bytes]; exact rfl)] | rw [t_blk]))
        simp [keepEnv, lk]
      rw [t_loop, hs, lp_norm]
      exact ih I (by omega) (by omega)
    · exact ih i (by omega) hi
theorem run20x {h : Heap} {A B : DV} {xs : List V} (hA : vw h 4 A = some (xs.map V.d)) (hB : vw h 4 B = some (xs.map V.d)) (hb : xs.length ≤ 1000000) : E X 20 [A, B] h = some (.bool true, h) := by
  obtain ⟨e', c1⟩ := loop20x hA hB hb xs.length 0 (by omega) (by omega)
  have hl2 : ((xs.length : Int) != xs.length) = false := by simp
  rw [show ((0 : Nat) : Int) = 0 from rfl] at c1
  unfold lp20_0 at c1
  rw [E_go (X := X) _ b20 _ rfl rfl]; unfold b20
  (repeat (first | rw [s_assoc] | rw [s_seq_reg (by simp [evOps, evOp_n, evOp_r, evOp_d, evOp_dr, kpo_refl, kpo_app, cnd_some, cnd_pair, cnd_cnd_t, cnd_cnd_f, cnd_same, cnd_dvb, cnd_and, cnd_or, ↓evx_pick, gd_bool, gd_boolf, gd_tup, cnd_t, cnd_f, evTo, isCall, evx, put, lk, Od.v, keepEnv, enterEnv, ldx_ref, rdc, binx, binI, binS, unx, eqk, DV.isU, DV.cells, hget, hget0, hset, hset0, stx_ref, splice, DV.one, fillp, mat, eqcs, eqs, hA, hB, hl2]; exact ⟨rfl, rfl⟩)] | rw [s_cnd (by simp [lk, keepEnv, Od.v, hA, hB, hl2]; exact rfl)] | rw [cnd_t] | rw [cnd_f] | rw [s_skip] | rw [s_ret] | rw [s_exit] | rw [C_ret] | rw [C_exit] | rw [C_skip] | rw [blk_ret] | rw [blk_norm] | rw [blk_exit] | rw [blk_exit' (by decide)] | rw [blkT_ret] | rw [blkT_norm] | rw [blkT_exit] | rw [blkT_exit' (by decide)] | rw [s_blk] | rw [s_reg (by simp [evOps, evOp_n, evOp_r, evOp_d, evOp_dr, kpo_refl, kpo_app, cnd_some, cnd_pair, cnd_cnd_t, cnd_cnd_f, cnd_same, cnd_dvb, cnd_and, cnd_or, ↓evx_pick, gd_bool, gd_boolf, gd_tup, cnd_t, cnd_f, evTo, isCall, evx, put, lk, Od.v, keepEnv, enterEnv, ldx_ref, rdc, binx, binI, binS, unx, eqk, DV.isU, DV.cells, hget, hget0, hset, hset0, stx_ref, splice, DV.one, fillp, mat, eqcs, eqs, hA, hB, hl2]; exact ⟨rfl, rfl⟩)] | rw [t_cnd (by simp [lk, keepEnv, Od.v, hA, hB, hl2]; exact rfl)] | rw [t_blk]))
  (try simp only [keepEnv, List.map_cons, List.map_nil, lk, reduceIte, Nat.reduceEqDiff, Nat.zero_ne_one, Nat.one_ne_zero])
  rw [c1]
  (repeat (first | rw [s_assoc] | rw [s_seq_reg (by simp [evOps, evOp_n, evOp_r, evOp_d, evOp_dr, kpo_refl, kpo_app, cnd_some, cnd_pair, cnd_cnd_t, cnd_cnd_f, cnd_same, cnd_dvb, cnd_and, cnd_or, ↓evx_pick, gd_bool, gd_boolf, gd_tup, cnd_t, cnd_f, evTo, isCall, evx, put, lk, Od.v, keepEnv, enterEnv, ldx_ref, rdc, binx, binI, binS, unx, eqk, DV.isU, DV.cells, hget, hget0, hset, hset0, stx_ref, splice, DV.one, fillp, mat, eqcs, eqs]; exact ⟨rfl, rfl⟩)] | rw [s_cnd (by simp [lk, keepEnv, Od.v]; exact rfl)] | rw [cnd_t] | rw [cnd_f] | rw [s_skip] | rw [s_ret] | rw [s_exit] | rw [C_ret] | rw [C_exit] | rw [C_skip] | rw [blk_ret] | rw [blk_norm] | rw [blk_exit] | rw [blk_exit' (by decide)] | rw [blkT_ret] | rw [blkT_norm] | rw [blkT_exit] | rw [blkT_exit' (by decide)] | rw [s_blk] | rw [s_reg (by simp [evOps, evOp_n, evOp_r, evOp_d, evOp_dr, kpo_refl, kpo_app, cnd_some, cnd_pair, cnd_cnd_t, cnd_cnd_f, cnd_same, cnd_dvb, cnd_and, cnd_or, ↓evx_pick, gd_bool, gd_boolf, gd_tup, cnd_t, cnd_f, evTo, isCall, evx, put, lk, Od.v, keepEnv, enterEnv, ldx_ref, rdc, binx, binI, binS, unx, eqk, DV.isU, DV.cells, hget, hget0, hset, hset0, stx_ref, splice, DV.one, fillp, mat, eqcs, eqs]; exact ⟨rfl, rfl⟩)] | rw [t_cnd (by simp [lk, keepEnv, Od.v]; exact rfl)] | rw [t_blk]))
  simp [ends_ret, ends_norm, resL, evOps, evOp_n, evOp_r, evOp_d, evOp_dr, kpo_refl, kpo_app, cnd_some, cnd_pair, cnd_cnd_t, cnd_cnd_f, cnd_same, cnd_dvb, cnd_and, cnd_or, ↓evx_pick, gd_bool, gd_boolf, gd_tup, cnd_t, cnd_f, evTo, isCall, evx, put, lk, Od.v, keepEnv, enterEnv, ldx_ref, rdc, binx, binI, binS, unx, eqk, DV.isU, DV.cells, hget, hget0, hset, hset0, stx_ref, splice, DV.one, fillp, mat, eqcs, eqs, fin, fz0, fz1, fzT, fzL, nlt]
/-- A list that is only read. -/
def RefL (R : DV) (rs : List V) : Prop := R = .list 4 (rs.map V.d) false ∨ (R = .nils ∧ rs = [])
theorem RefL.vw {R : DV} {rs : List V} (h : RefL R rs) (g : Heap) : vw g 4 R = some (rs.map V.d) := by
  rcases h with rfl | ⟨rfl, rfl⟩ <;> rfl
theorem fz1_int (n : Nat) (h : Heap) (t : Bool) (k : IntKind) (i : Int) : fz1 n h t (.int k i) = some (.int k i, h) := rfl
theorem fin_row3 {h l : Heap} {r g n : Nat} {xs : List DV} (hr : h.length ≤ r) (hx : (h ++ l)[r]? = some (.row 24 4 g xs)) (hn : n = xs.length) (hN : ∀ x ∈ xs, Nr x) (a b : Int) :
    fin h (h ++ l) [.row r g 0 n false, .int .i64 a, .int .i64 b] = (.tup [.list 4 xs false, .int .i64 a, .int .i64 b], h) := by
  have h1 : (h ++ l).take h.length = h := List.take_left
  have f1 : fz1 h.length (h ++ l) false (.row r g 0 n false) = some (.list 4 xs false, (h ++ l).set r (.frz 24 4 g xs)) := by
    rw [fz1]
    · rw [fz0, if_neg (by omega), hx]
      simp only
      rw [if_pos ⟨rfl, by omega, hN⟩, if_neg (by simp), hn]
      simp
    · intro cs h; cases h
  rw [fin]
  · rw [if_pos h1]
    simp only [fzT, f1, fz1_int]
  · intro d h; cases h
theorem limOf_full (limit : Int) (n : Nat) : limOf limit ≤ n ↔ (limit ≤ n ∨ (4096 : Int) ≤ n) := by
  unfold limOf
  split
  · omega
  · split <;> omega
theorem run13 {R : DV} {rs : List V} (hR : RefL R rs) (hb : rs.length ≤ 1000) (limit : Int) (v : V) (h : Heap) : ∃ R', RefL R' (addS (limOf limit) rs v).2.2 ∧ E X 13 [R, .int .i64 limit, v.d] h = some (.tup [R', .int .i64 (addS (limOf limit) rs v).1, .int .i64 (addS (limOf limit) rs v).2.1], h) := by
  have hv := hR.vw
  have hpl : R.plain = true := by rcases hR with rfl | ⟨rfl, _⟩ <;> rfl
  have e1 := run22 v
  have e2 := fun l => run16 (h := h ++ l) (A := R) (xs := rs) v (fun _ => hv _) (by omega)
  have fin3 : ∀ (l : Heap) (a b : Int), fin h (h ++ l) [R, .int .i64 a, .int .i64 b] = (.tup [R, .int .i64 a, .int .i64 b], h) := by
    intro l a b
    rw [fin]
    · rw [if_pos List.take_left]
      simp only [fzT, fz1_plain _ _ _ hpl, fz1_int]
    · intro d h; cases h
  unfold addS
  cases hm : mayV v
  · rw [if_neg (by simp)]
    refine ⟨R, hR, ?_⟩
    rw [E_go (X := X) _ b13 _ rfl rfl]; unfold b13
    (repeat (first | rw [s_assoc] | rw [s_seq_reg (by simp [evOps, evOp_n, evOp_r, evOp_d, evOp_dr, kpo_refl, kpo_app, cnd_some, cnd_pair, cnd_cnd_t, cnd_cnd_f, cnd_same, cnd_dvb, cnd_and, cnd_or, ↓evx_pick, gd_bool, gd_boolf, gd_tup, cnd_t, cnd_f, evTo, isCall, evx, put, lk, Od.v, keepEnv, enterEnv, ldx_ref, rdc, binx, binI, binS, unx, eqk, DV.isU, DV.cells, hget, hget0, hset, hset0, stx_ref, splice, DV.one, fillp, mat, eqcs, eqs, e1, hm]; exact ⟨rfl, rfl⟩)] | rw [s_cnd (by simp [lk, keepEnv, Od.v, e1, hm]; exact rfl)] | rw [cnd_t] | rw [cnd_f] | rw [s_skip] | rw [s_ret] | rw [s_exit] | rw [C_ret] | rw [C_exit] | rw [C_skip] | rw [blk_ret] | rw [blk_norm] | rw [blk_exit] | rw [blk_exit' (by decide)] | rw [blkT_ret] | rw [blkT_norm] | rw [blkT_exit] | rw [blkT_exit' (by decide)] | rw [s_blk] | rw [s_reg (by simp [evOps, evOp_n, evOp_r, evOp_d, evOp_dr, kpo_refl, kpo_app, cnd_some, cnd_pair, cnd_cnd_t, cnd_cnd_f, cnd_same, cnd_dvb, cnd_and, cnd_or, ↓evx_pick, gd_bool, gd_boolf, gd_tup, cnd_t, cnd_f, evTo, isCall, evx, put, lk, Od.v, keepEnv, enterEnv, ldx_ref, rdc, binx, binI, binS, unx, eqk, DV.isU, DV.cells, hget, hget0, hset, hset0, stx_ref, splice, DV.one, fillp, mat, eqcs, eqs, e1, hm]; exact ⟨rfl, rfl⟩)] | rw [t_cnd (by simp [lk, keepEnv, Od.v, e1, hm]; exact rfl)] | rw [t_blk]))
    simp only [ends_ret, resL, keepEnv, List.map_cons, List.map_nil, lk, reduceIte, Nat.reduceEqDiff, Option.map_some]
    rw [fin3]
  · rw [if_pos rfl]
    cases hf : fnd v rs 0 with
    | some j =>
      refine ⟨R, hR, ?_⟩
      have z1 : (0 : Int) ≤ j := by omega
      rw [E_go (X := X) _ b13 _ rfl rfl]; unfold b13
      (repeat (first | rw [s_assoc] | rw [s_seq_reg (by simp [evOps, evOp_n, evOp_r, evOp_d, evOp_dr, kpo_refl, kpo_app, cnd_some, cnd_pair, cnd_cnd_t, cnd_cnd_f, cnd_same, cnd_dvb, cnd_and, cnd_or, ↓evx_pick, gd_bool, gd_boolf, gd_tup, cnd_t, cnd_f, evTo, isCall, evx, put, lk, Od.v, keepEnv, enterEnv, ldx_ref, rdc, binx, binI, binS, unx, eqk, DV.isU, DV.cells, hget, hget0, hset, hset0, stx_ref, splice, DV.one, fillp, mat, eqcs, eqs, e1, hm, e2, hf, z1]; exact ⟨rfl, rfl⟩)] | rw [s_cnd (by simp [lk, keepEnv, Od.v, e1, hm, e2, hf, z1]; exact rfl)] | rw [cnd_t] | rw [cnd_f] | rw [s_skip] | rw [s_ret] | rw [s_exit] | rw [C_ret] | rw [C_exit] | rw [C_skip] | rw [blk_ret] | rw [blk_norm] | rw [blk_exit] | rw [blk_exit' (by decide)] | rw [blkT_ret] | rw [blkT_norm] | rw [blkT_exit] | rw [blkT_exit' (by decide)] | rw [s_blk] | rw [s_reg (by simp [evOps, evOp_n, evOp_r, evOp_d, evOp_dr, kpo_refl, kpo_app, cnd_some, cnd_pair, cnd_cnd_t, cnd_cnd_f, cnd_same, cnd_dvb, cnd_and, cnd_or, ↓evx_pick, gd_bool, gd_boolf, gd_tup, cnd_t, cnd_f, evTo, isCall, evx, put, lk, Od.v, keepEnv, enterEnv, ldx_ref, rdc, binx, binI, binS, unx, eqk, DV.isU, DV.cells, hget, hget0, hset, hset0, stx_ref, splice, DV.one, fillp, mat, eqcs, eqs, e1, hm, e2, hf, z1]; exact ⟨rfl, rfl⟩)] | rw [t_cnd (by simp [lk, keepEnv, Od.v, e1, hm, e2, hf, z1]; exact rfl)] | rw [t_blk]))
      simp only [ends_ret, resL, keepEnv, List.map_cons, List.map_nil, lk, reduceIte, Nat.reduceEqDiff, Option.map_some]
      rw [fin3]
    | none =>
      simp only
      by_cases hl : limOf limit ≤ rs.length
      · rw [if_pos hl]
        refine ⟨R, hR, ?_⟩
        have hor := (limOf_full limit rs.length).1 hl
        by_cases z1 : limit ≤ rs.length
        · rw [E_go (X := X) _ b13 _ rfl rfl]; unfold b13
          (repeat (first | rw [s_assoc] | rw [s_seq_reg (by simp [evOps, evOp_n, evOp_r, evOp_d, evOp_dr, kpo_refl, kpo_app, cnd_some, cnd_pair, cnd_cnd_t, cnd_cnd_f, cnd_same, cnd_dvb, cnd_and, cnd_or, ↓evx_pick, gd_bool, gd_boolf, gd_tup, cnd_t, cnd_f, evTo, isCall, evx, put, lk, Od.v, keepEnv, enterEnv, ldx_ref, rdc, binx, binI, binS, unx, eqk, DV.isU, DV.cells, hget, hget0, hset, hset0, stx_ref, splice, DV.one, fillp, mat, eqcs, eqs, e1, hm, e2, hf, hv, z1]; exact ⟨rfl, rfl⟩)] | rw [s_cnd (by simp [lk, keepEnv, Od.v, e1, hm, e2, hf, hv, z1]; exact rfl)] | rw [cnd_t] | rw [cnd_f] | rw [s_skip] | rw [s_ret] | rw [s_exit] | rw [C_ret] | rw [C_exit] | rw [C_skip] | rw [blk_ret] | rw [blk_norm] | rw [blk_exit] | rw [blk_exit' (by decide)] | rw [blkT_ret] | rw [blkT_norm] | rw [blkT_exit] | rw [blkT_exit' (by decide)] | rw [s_blk] | rw [s_reg (by simp [evOps, evOp_n, evOp_r, evOp_d, evOp_dr, kpo_refl, kpo_app, cnd_some, cnd_pair, cnd_cnd_t, cnd_cnd_f, cnd_same, cnd_dvb, cnd_and, cnd_or, ↓evx_pick, gd_bool, gd_boolf, gd_tup, cnd_t, cnd_f, evTo, isCall, evx, put, lk, Od.v, keepEnv, enterEnv, ldx_ref, rdc, binx, binI, binS, unx, eqk, DV.isU, DV.cells, hget, hget0, hset, hset0, stx_ref, splice, DV.one, fillp, mat, eqcs, eqs, e1, hm, e2, hf, hv, z1]; exact ⟨rfl, rfl⟩)] | rw [t_cnd (by simp [lk, keepEnv, Od.v, e1, hm, e2, hf, hv, z1]; exact rfl)] | rw [t_blk]))
          simp only [ends_ret, resL, keepEnv, List.map_cons, List.map_nil, lk, reduceIte, Nat.reduceEqDiff, Option.map_some]
          rw [fin3]
        · omega
      · rw [if_neg hl]
        have hno : ¬ limit ≤ rs.length ∧ ¬ (4096 : Int) ≤ rs.length := by
          constructor
          · exact fun h => hl ((limOf_full limit rs.length).2 (.inl h))
          · exact fun h => hl ((limOf_full limit rs.length).2 (.inr h))
        refine ⟨.list 4 ((rs ++ [v]).map V.d) false, .inl rfl, ?_⟩
        have q1 := eltL_v v
        have q2 := Wc_v v
        have q3 := Nr_v v
        have q4 : ∀ g, vw g 4 (.list 4 [v.d] true) = some [v.d] := fun _ => rfl
        have q5 : ∀ g, vw g 4 .nils = some [] := fun _ => rfl
        have z1 := hno.1
        have z2 := hno.2
        have hsrc : ∀ g, srcOf g 4 R = some (rs.map V.d) := by
          intro g; rcases hR with rfl | ⟨rfl, rfl⟩ <;> rfl
        have hsrc2 : ∀ g, srcOf g 4 (.list 4 [v.d] true) = some [v.d] := fun _ => rfl
        have hNx := all_Nr (rs ++ [v])
        by_cases hrs : rs = []
        · subst hrs
          have z1' : ¬ limit ≤ 0 := by simpa using z1
          have hv' : ∀ g, vw g 4 R = some [] := hv
          have hsrc' : ∀ g, srcOf g 4 R = some [] := hsrc
          have e2' : ∀ l, E X 16 [R, v.d] (h ++ l) = some (.int .i64 (-1), h ++ l) := e2
          have a1 : ∀ g, appx g 24 4 40 .nils [] [] = some (.nils, g) := fun g => by simp [appx]
          have a2 : ∀ g : Heap, appx g 24 4 40 .nils [] [v.d] = some (.row g.length 0 0 1 false, g ++ [.row 24 4 0 [v.d]]) := fun g => by simp [appx]
          have f3 := fin_row3 (h := h) (l := [HO.box 24 [.int .i64 v.k, .int .i64 v.n, .str v.s, .bool v.t], .row 24 4 0 [v.d]]) (r := h.length + 1) (g := 0) (n := 1) (xs := [v.d]) (by omega) (by simp [hget]) rfl (by simpa using hNx) 0 0
          rw [E_go (X := X) _ b13 _ rfl rfl]; unfold b13
          (repeat (first | rw [s_assoc] | rw [s_seq_reg (by simp [evOps, evOp_n, evOp_r, evOp_d, evOp_dr, kpo_refl, kpo_app, cnd_some, cnd_pair, cnd_cnd_t, cnd_cnd_f, cnd_same, cnd_dvb, cnd_and, cnd_or, ↓evx_pick, gd_bool, gd_boolf, gd_tup, cnd_t, cnd_f, evTo, isCall, evx, put, lk, Od.v, keepEnv, enterEnv, ldx_ref, rdc, binx, binI, binS, unx, eqk, DV.isU, DV.cells, hget, hget0, hset, hset0, stx_ref, splice, DV.one, fillp, mat, eqcs, eqs, e1, hm, e2', hv', z1', hsrc', hsrc2, q1, q2, q3, q4, q5, a1, a2]; exact ⟨rfl, rfl⟩)] | rw [s_cnd (by simp [lk, keepEnv, Od.v, e1, hm, e2', hv', z1', hsrc', hsrc2, q1, q2, q3, q4, q5, a1, a2]; exact rfl)] | rw [cnd_t] | rw [cnd_f] | rw [s_skip] | rw [s_ret] | rw [s_exit] | rw [C_ret] | rw [C_exit] | rw [C_skip] | rw [blk_ret] | rw [blk_norm] | rw [blk_exit] | rw [blk_exit' (by decide)] | rw [blkT_ret] | rw [blkT_norm] | rw [blkT_exit] | rw [blkT_exit' (by decide)] | rw [s_blk] | rw [s_reg (by simp [evOps, evOp_n, evOp_r, evOp_d, evOp_dr, kpo_refl, kpo_app, cnd_some, cnd_pair, cnd_cnd_t, cnd_cnd_f, cnd_same, cnd_dvb, cnd_and, cnd_or, ↓evx_pick, gd_bool, gd_boolf, gd_tup, cnd_t, cnd_f, evTo, isCall, evx, put, lk, Od.v, keepEnv, enterEnv, ldx_ref, rdc, binx, binI, binS, unx, eqk, DV.isU, DV.cells, hget, hget0, hset, hset0, stx_ref, splice, DV.one, fillp, mat, eqcs, eqs, e1, hm, e2', hv', z1', hsrc', hsrc2, q1, q2, q3, q4, q5, a1, a2]; exact ⟨rfl, rfl⟩)] | rw [t_cnd (by simp [lk, keepEnv, Od.v, e1, hm, e2', hv', z1', hsrc', hsrc2, q1, q2, q3, q4, q5, a1, a2]; exact rfl)] | rw [t_blk]))
          simp only [ends_ret, resL, keepEnv, List.map_cons, List.map_nil, lk, reduceIte, Nat.reduceEqDiff, Option.map_some]
          rw [f3]
          rfl
        · have hne : rs.map V.d ≠ [] := by simpa using hrs
          have hlb : ((rs.map V.d).length) * 40 ≤ 140737488355328 := by simp; omega
          have a1 : ∀ g : Heap, appx g 24 4 40 .nils [] (rs.map V.d) = some (.row g.length 0 0 rs.length false, g ++ [.row 24 4 0 (rs.map V.d)]) := fun g => by
            rw [appx, if_neg hne, if_pos (by simpa using hlb)]; simp
          have b1 : vw (h ++ [HO.box 24 [.int .i64 v.k, .int .i64 v.n, .str v.s, .bool v.t], .row 24 4 0 (rs.map V.d)]) 4 (.row (h.length + 1) 0 0 rs.length false) = some (rs.map V.d) := by
            simp [vw, hget, List.take_of_length_le]
          have a2 : appx (h ++ [HO.box 24 [.int .i64 v.k, .int .i64 v.n, .str v.s, .bool v.t], .row 24 4 0 (rs.map V.d)]) 24 4 40 (.row (h.length + 1) 0 0 rs.length false) (rs.map V.d) [v.d] = some (.row (h.length + 1) 1 0 (rs.length + 1) false, h ++ [HO.box 24 [.int .i64 v.k, .int .i64 v.n, .str v.s, .bool v.t], .row 24 4 1 (rs.map V.d ++ [v.d])]) := by
            rw [appx, if_neg (by simp), if_pos (by simp; omega)]
            simp [hget, hset]
          have f3 := fin_row3 (h := h) (l := [HO.box 24 [.int .i64 v.k, .int .i64 v.n, .str v.s, .bool v.t], .row 24 4 1 (rs.map V.d ++ [v.d])]) (r := h.length + 1) (g := 1) (n := rs.length + 1) (xs := rs.map V.d ++ [v.d]) (by omega) (by simp [hget]) (by simp) (by simpa using hNx) rs.length 0
          rw [E_go (X := X) _ b13 _ rfl rfl]; unfold b13
          (repeat (first | rw [s_assoc] | rw [s_seq_reg (by simp [evOps, evOp_n, evOp_r, evOp_d, evOp_dr, kpo_refl, kpo_app, cnd_some, cnd_pair, cnd_cnd_t, cnd_cnd_f, cnd_same, cnd_dvb, cnd_and, cnd_or, ↓evx_pick, gd_bool, gd_boolf, gd_tup, cnd_t, cnd_f, evTo, isCall, evx, put, lk, Od.v, keepEnv, enterEnv, ldx_ref, rdc, binx, binI, binS, unx, eqk, DV.isU, DV.cells, hget, hget0, hset, hset0, stx_ref, splice, DV.one, fillp, mat, eqcs, eqs, e1, hm, e2, hf, hv, z1, z2, hsrc, hsrc2, q1, q2, q3, q4, q5, a1, b1, a2]; exact ⟨rfl, rfl⟩)] | rw [s_cnd (by simp [lk, keepEnv, Od.v, e1, hm, e2, hf, hv, z1, z2, hsrc, hsrc2, q1, q2, q3, q4, q5, a1, b1, a2]; exact rfl)] | rw [cnd_t] | rw [cnd_f] | rw [s_skip] | rw [s_ret] | rw [s_exit] | rw [C_ret] | rw [C_exit] | rw [C_skip] | rw [blk_ret] | rw [blk_norm] | rw [blk_exit] | rw [blk_exit' (by decide)] | rw [blkT_ret] | rw [blkT_norm] | rw [blkT_exit] | rw [blkT_exit' (by decide)] | rw [s_blk] | rw [s_reg (by simp [evOps, evOp_n, evOp_r, evOp_d, evOp_dr, kpo_refl, kpo_app, cnd_some, cnd_pair, cnd_cnd_t, cnd_cnd_f, cnd_same, cnd_dvb, cnd_and, cnd_or, ↓evx_pick, gd_bool, gd_boolf, gd_tup, cnd_t, cnd_f, evTo, isCall, evx, put, lk, Od.v, keepEnv, enterEnv, ldx_ref, rdc, binx, binI, binS, unx, eqk, DV.isU, DV.cells, hget, hget0, hset, hset0, stx_ref, splice, DV.one, fillp, mat, eqcs, eqs, e1, hm, e2, hf, hv, z1, z2, hsrc, hsrc2, q1, q2, q3, q4, q5, a1, b1, a2]; exact ⟨rfl, rfl⟩)] | rw [t_cnd (by simp [lk, keepEnv, Od.v, e1, hm, e2, hf, hv, z1, z2, hsrc, hsrc2, q1, q2, q3, q4, q5, a1, b1, a2]; exact rfl)] | rw [t_blk]))
          simp only [ends_ret, resL, keepEnv, List.map_cons, List.map_nil, lk, reduceIte, Nat.reduceEqDiff, Option.map_some]
          rw [f3, List.map_append]
          rfl
/-- Two rows that are filled. -/
def hq (H : Heap) (os : List V) (ts : List Int) : Heap := H ++ [.row 24 4 0 (os.map V.d), .row 3 1 0 (ts.map (.int .i64))]
section
variable {H : Heap} {os : List V} {ts : List Int} {n : Nat}
theorem hq_vw4 (ho : os.length = n) : vw (hq H os ts) 4 (.row H.length 0 0 n false) = some (os.map V.d) := by
  subst ho; simp [vw, hq, hget0, List.take_of_length_le]
theorem hq_vw1 (ht : ts.length = n) : vw (hq H os ts) 1 (.row (H.length + 1) 0 0 n false) = some (ts.map (.int .i64)) := by
  subst ht; simp [vw, hq, hget, List.take_of_length_le]
theorem hq_wr4 (ho : os.length = n) {i : Nat} (hi : i < n) (v : V) : stx (hq H os ts) 4 (.elem (.row H.length 0 0 n false) 4 i 0) (.agg [.int .i64 v.k, .int .i64 v.n, .str v.s, .bool v.t]) = some (hq H (os.set i v) ts) := by
  subst ho
  have h1 : (hq H os ts)[H.length]? = some (.row 24 4 0 (os.map V.d)) := by simp [hq, hget0]
  have h2 : (os.map V.d)[i]? = some (os[i]).d := by simp [List.getElem?_eq_getElem hi]
  rw [stx, if_pos (by simp [DV.cells, DV.one])]
  simp only [h1]
  rw [if_pos (by simp [hi])]
  simp only [Nat.zero_add, h2]
  simp [eput, DV.cells, splice, hq, hset0]
theorem hq_wr1 (ht : ts.length = n) {i : Nat} (hi : i < n) (x : Int) : stx (hq H os ts) 1 (.elem (.row (H.length + 1) 0 0 n false) 1 i 0) (.int .i64 x) = some (hq H os (ts.set i x)) := by
  subst ht
  have h1 : (hq H os ts)[H.length + 1]? = some (.row 3 1 0 (ts.map (.int .i64))) := by simp [hq, hget]
  have h2 : (ts.map (DV.int .i64))[i]? = some (.int .i64 ts[i]) := by simp [List.getElem?_eq_getElem hi]
  rw [stx, if_pos (by simp [DV.cells, DV.one])]
  simp only [h1]
  rw [if_pos (by simp [hi])]
  simp only [Nat.zero_add, h2]
  simp [eput, DV.one, hq, hset]
theorem hq_rd1 (ht : ts.length = n) {i : Nat} (hi : i < n) (x : Int) : ldx (hq H os (ts.set i x)) false 1 (.elem (.row (H.length + 1) 0 0 n false) 1 i 0) = some (.int .i64 x) := by
  rw [ldx, hq_vw1 (by simpa using ht)]
  have : ((ts.set i x).map (DV.int .i64))[i]? = some (.int .i64 x) := by
    rw [List.getElem?_map, List.getElem?_set_self (by omega)]; rfl
  simp only [this]
  rfl
end
theorem fin_hq {H : Heap} {os : List V} {ts : List Int} {n : Nat} (ho : os.length = n) (ht : ts.length = n) : fin H (hq H os ts) [.row H.length 0 0 n false, .row (H.length + 1) 0 0 n false] = (.tup [.list 4 (os.map V.d) false, .list 1 (ts.map (.int .i64)) false], H) := by
  subst ho
  have h1 : (hq H os ts).take H.length = H := List.take_left
  have g1 : (hq H os ts)[H.length]? = some (.row 24 4 0 (os.map V.d)) := by simp [hq, hget0]
  have g2 : ((hq H os ts).set H.length (.frz 24 4 0 (os.map V.d)))[H.length + 1]? = some (.row 3 1 0 (ts.map (.int .i64))) := by
    rw [List.getElem?_set_ne (by omega)]; simp [hq, hget]
  have q0 := all_Nr os
  have q1 : ∀ x ∈ ts.map (DV.int .i64), Nr x := by intro x hx; obtain ⟨y, _, rfl⟩ := List.mem_map.1 hx; exact .int _ _
  have f1 : fz1 H.length (hq H os ts) false (.row H.length 0 0 os.length false) = some (.list 4 (os.map V.d) false, (hq H os ts).set H.length (.frz 24 4 0 (os.map V.d))) := by
    rw [fz1]
    · rw [fz0, if_neg (by omega), g1]
      simp only
      rw [if_pos ⟨rfl, by simp, q0⟩, if_neg (by simp)]
      simp [List.take_of_length_le]
    · intro cs h; cases h
  have f2 : fz1 H.length ((hq H os ts).set H.length (.frz 24 4 0 (os.map V.d))) false (.row (H.length + 1) 0 0 os.length false) = some (.list 1 (ts.map (.int .i64)) false, ((hq H os ts).set H.length (.frz 24 4 0 (os.map V.d))).set (H.length + 1) (.frz 3 1 0 (ts.map (.int .i64)))) := by
    rw [fz1]
    · rw [fz0, if_neg (by omega), g2]
      simp only
      rw [if_pos ⟨rfl, by simp [ht], q1⟩, if_neg (by simp)]
      simp [← ht, List.take_of_length_le]
    · intro cs h; cases h
  rw [fin]
  · rw [if_pos h1]
    simp only [fzT, f1, f2]
  · intro d h; cases h
theorem loop19 {H : Heap} {R : DV} {rs ys : List V} (hR : ∀ g, vw g 4 R = some (rs.map V.d)) (hb : rs.length ≤ 1000) (hsm : ∀ x ∈ rs, Sm x) (hu : Up ys) (hp : ys.Perm rs) :
    ∀ (k i : Nat) (os : List V) (ts : List Int), rs.length - i ≤ k → i ≤ rs.length → os.length = rs.length → ts.length = rs.length → (∀ j v, j < i → rs[j]? = some v → ts[j]? = some (place ys v : Int) ∧ os[place ys v]? = some v) →
      ∃ (e' : Env) (os' : List V) (ts' : List Int), C X (.loop lp19_0) [(0, R), (4, .row H.length 0 0 rs.length false), (5, .row (H.length + 1) 0 0 rs.length false), (6, .int .i64 i)] (hq H os ts) = some (.exit 0, e', hq H os' ts') ∧ lk e' 4 = .row H.length 0 0 rs.length false ∧ lk e' 5 = .row (H.length + 1) 0 0 rs.length false ∧
        os'.length = rs.length ∧ ts'.length = rs.length ∧ (∀ (j : Nat) (v : V), rs[j]? = some v → ts'[j]? = some (place ys v : Int) ∧ os'[place ys v]? = some v) := by
  intro k
  induction k with
  | zero =>
    intro i os ts hk hi ho ht hI
    obtain rfl : i = rs.length := by omega
    rw [t_loop]
    unfold lp19_0
    (repeat (first | rw [s_assoc] | rw [s_seq_reg (by simp [evOps, evOp_n, evOp_r, evOp_d, evOp_dr, kpo_refl, kpo_app, cnd_some, cnd_pair, cnd_cnd_t, cnd_cnd_f, cnd_same, cnd_dvb, cnd_and, cnd_or, ↓evx_pick, gd_bool, gd_boolf, gd_tup, cnd_t, cnd_f, evTo, isCall, evx, put, lk, Od.v, keepEnv, enterEnv, ldx_ref, rdc, binx, binI, binS, unx, eqk, DV.isU, DV.cells, hget, hget0, hset, hset0, stx_ref, splice, DV.one, fillp, mat, eqcs, eqs, hR]; exact ⟨rfl, rfl⟩)] | rw [s_cnd (by simp [lk, keepEnv, Od.v, hR]; exact rfl)] | rw [cnd_t] | rw [cnd_f] | rw [s_skip] | rw [s_ret] | rw [s_exit] | rw [C_ret] | rw [C_exit] | rw [C_skip] | rw [blk_ret] | rw [blk_norm] | rw [blk_exit] | rw [blk_exit' (by decide)] | rw [blkT_ret] | rw [blkT_norm] | rw [blkT_exit] | rw [blkT_exit' (by decide)] | rw [s_blk] | rw [s_reg (by simp [evOps, evOp_n, evOp_r, evOp_d, evOp_dr, kpo_refl, kpo_app, cnd_some, cnd_pair, cnd_cnd_t, cnd_cnd_f, cnd_same, cnd_dvb, cnd_and, cnd_or, ↓evx_pick, gd_bool, gd_boolf, gd_tup, cnd_t, cnd_f, evTo, isCall, evx, put, lk, Od.v, keepEnv, enterEnv, ldx_ref, rdc, binx, binI, binS, unx, eqk, DV.isU, DV.cells, hget, hget0, hset, hset0, stx_ref, splice, DV.one, fillp, mat, eqcs, eqs, hR]; exact ⟨rfl, rfl⟩)] | rw [t_cnd (by simp [lk, keepEnv, Od.v, hR]; exact rfl)] | rw [t_blk]))
    rw [lp_exit]
    exact ⟨_, _, _, rfl, by simp [keepEnv, lk], by simp [keepEnv, lk], ho, ht, fun j v hj => hI j v (List.getElem?_eq_some_iff.1 hj).1 hj⟩
  | succ k ih =>
    intro i os ts hk hi ho ht hI
    by_cases w0 : i < rs.length
    · obtain ⟨I, hI'⟩ : ∃ I, I = i + 1 := ⟨_, rfl⟩
      have w1 : IntKind.i64.wrap ((i : Int) + 1) = (I : Int) := (by rw [wrap64 _ (by omega) (by omega)]; omega)
      obtain ⟨v, hv⟩ : ∃ v, v = rs[i] := ⟨_, rfl⟩
      have hvi : rs[i]? = some v := by rw [hv]; exact List.getElem?_eq_getElem w0
      have hmem : v ∈ ys := hp.mem_iff.2 (List.mem_of_getElem? hvi)
      obtain ⟨p, hp'⟩ : ∃ p, p = place ys v := ⟨_, rfl⟩
      have hpl := (up_at_place hu hmem).1
      have hpn : p < rs.length := by rw [hp', ← hp.length_eq]; exact (List.getElem?_eq_some_iff.1 hpl).1
      have hcount : (rs.countP fun x => decide (ord x v < 0)) = p := by rw [hp', place_count hu v]; exact (hp.countP_eq _).symm
      have e34 := fun g => run34x (h := g) (A := R) (xs := rs) v (fun _ => hR _) (by omega) hsm (hsm v (List.mem_of_getElem? hvi))
      rw [hcount] at e34
      have hs : C X lp19_0 [(0, R), (4, .row H.length 0 0 rs.length false), (5, .row (H.length + 1) 0 0 rs.length false), (6, .int .i64 i)] (hq H os ts) = some (.norm, [(0, R), (4, .row H.length 0 0 rs.length false), (5, .row (H.length + 1) 0 0 rs.length false), (6, .int .i64 I)], hq H (os.set p v) (ts.set i p)) := by
        have a1 := hq_vw1 (H := H) (os := os) (n := rs.length) ht
        have a2 := hq_wr1 (H := H) (os := os) (n := rs.length) ht w0 (p : Int)
        have a3 := hq_vw1 (H := H) (os := os) (ts := ts.set i p) (n := rs.length) (by simpa using ht)
        have a4 := hq_rd1 (H := H) (os := os) (n := rs.length) ht w0 (p : Int)
        have a5 := hq_vw4 (H := H) (os := os) (ts := ts.set i p) (n := rs.length) ho
        have a6 := hq_wr4 (H := H) (os := os) (ts := ts.set i p) (n := rs.length) ho hpn v
        have a7 : ∀ g, ldx g true 4 (.elem R 4 i 0) = some v.d := fun g => by
          rw [ldx, hR g]; simp [hvi, rdc, DV.cells]
        unfold lp19_0
        (repeat (first | rw [s_assoc] | rw [s_seq_reg (by simp [evOps, evOp_n, evOp_r, evOp_d, evOp_dr, kpo_refl, kpo_app, cnd_some, cnd_pair, cnd_cnd_t, cnd_cnd_f, cnd_same, cnd_dvb, cnd_and, cnd_or, ↓evx_pick, gd_bool, gd_boolf, gd_tup, cnd_t, cnd_f, evTo, isCall, evx, put, lk, Od.v, keepEnv, enterEnv, ldx_ref, rdc, binx, binI, binS, unx, eqk, DV.isU, DV.cells, hget, hget0, hset, hset0, stx_ref, splice, DV.one, fillp, mat, eqcs, eqs, w0, w1, hR, a7, e34, a1, a2, a3, a4, a5, a6, ht, ho, hpn]; exact ⟨rfl, rfl⟩)] | rw [s_cnd (by simp [lk, keepEnv, Od.v, w0, w1, hR, a7, e34, a1, a2, a3, a4, a5, a6, ht, ho, hpn]; exact rfl)] | rw [cnd_t] | rw [cnd_f] | rw [s_skip] | rw [s_ret] | rw [s_exit] | rw [C_ret] | rw [C_exit] | rw [C_skip] | rw [blk_ret] | rw [blk_norm] | rw [blk_exit] | rw [blk_exit' (by decide)] | rw [blkT_ret] | rw [blkT_norm] | rw [blkT_exit] | rw [blkT_exit' (by decide)] | rw [s_blk] | rw [s_reg (by simp [evOps, evOp_n, evOp_r, evOp_d, evOp_dr, kpo_refl, kpo_app, cnd_some, cnd_pair, cnd_cnd_t, cnd_cnd_f, cnd_same, cnd_dvb, cnd_and, cnd_or, ↓evx_pick, gd_bool, gd_boolf, gd_tup, cnd_t, cnd_f, evTo, isCall, evx, put, lk, Od.v, keepEnv, enterEnv, ldx_ref, rdc, binx, binI, binS, unx, eqk, DV.isU, DV.cells, hget, hget0, hset, hset0, stx_ref, splice, DV.one, fillp, mat, eqcs, eqs, w0, w1, hR, a7, e34, a1, a2, a3, a4, a5, a6, ht, ho, hpn]; exact ⟨rfl, rfl⟩)] | rw [t_cnd (by simp [lk, keepEnv, Od.v, w0, w1, hR, a7, e34, a1, a2, a3, a4, a5, a6, ht, ho, hpn]; exact rfl)] | rw [t_blk]))
        simp [keepEnv, lk]
      rw [t_loop, hs, lp_norm]
      refine ih I _ _ (by omega) (by omega) (by simpa using ho) (by simpa using ht) (fun j u hj hu' => ?_)
      by_cases hji : j = i
      · subst hji
        rw [hvi] at hu'
        injection hu' with hu'
        subst hu'
        rw [← hp', List.getElem?_set_self (by omega), List.getElem?_set_self (by omega)]
        exact ⟨rfl, rfl⟩
      · obtain ⟨h1, h2⟩ := hI j u (by omega) hu'
        refine ⟨by rw [List.getElem?_set_ne (Ne.symm hji)]; exact h1, ?_⟩
        by_cases hpp : p = place ys u
        · have hmu : u ∈ ys := hp.mem_iff.2 (List.mem_of_getElem? hu')
          have e := (up_at_place hu hmu).1
          rw [← hpp, hp', hpl] at e
          injection e with e
          subst e
          rw [← hpp, List.getElem?_set_self (by omega)]
        · rw [List.getElem?_set_ne hpp]; exact h2
    · exact ih i os ts (by omega) hi ho ht hI
theorem up_place {ys : List V} (hu : Up ys) {p : Nat} {x : V} (hx : ys[p]? = some x) : place ys x = p := by
  have h1 := (up_at_place hu (List.mem_of_getElem? hx)).1
  rcases Nat.lt_trichotomy (place ys x) p with h | h | h
  · exact absurd (up_at hu h h1 hx) (ord_self x)
  · exact h
  · exact absurd (up_at hu h hx h1) (ord_self x)
theorem run19 {R : DV} {rs ys : List V} (hR : ∀ g, vw g 4 R = some (rs.map V.d)) (hb : rs.length ≤ 1000) (hsm : ∀ x ∈ rs, Sm x) (hu : Up ys) (hp : ys.Perm rs) (H : Heap) :
    E X 19 [R] H = some (.tup [.list 4 (ys.map V.d) false, .list 1 (toS ys rs) false], H) := by
  obtain ⟨e', os, ts, c1, c2, c3, c4, c5, c6⟩ := loop19 (H := H) hR hb hsm hu hp rs.length 0 (List.replicate rs.length V0) (List.replicate rs.length 0) (by omega) (by omega) (by simp) (by simp) (fun j v hj => by omega)
  have hos : os = ys := by
    apply List.ext_getElem?
    intro p
    cases hx : ys[p]? with
    | none =>
      have := List.getElem?_eq_none_iff.1 hx
      exact List.getElem?_eq_none (by rw [c4, ← hp.length_eq]; exact this)
    | some x =>
      have hm : x ∈ rs := hp.mem_iff.1 (List.mem_of_getElem? hx)
      obtain ⟨j, hj, hj2⟩ := List.mem_iff_getElem.1 hm
      have := (c6 j x (by rw [List.getElem?_eq_getElem hj, hj2])).2
      rw [up_place hu hx] at this
      exact this
  have hts : ts.map (DV.int .i64) = toS ys rs := by
    apply List.ext_getElem?
    intro j
    cases hx : rs[j]? with
    | none =>
      have := List.getElem?_eq_none_iff.1 hx
      rw [List.getElem?_eq_none (by simp; omega), List.getElem?_eq_none (by simp [toS]; omega)]
    | some x =>
      rw [List.getElem?_map, (c6 j x hx).1]
      simp [toS, hx]
  have hq0 : H ++ [HO.row 24 4 0 (List.replicate rs.length (.agg [.int .i64 0, .int .i64 0, .str ⟨#[]⟩, .bool false])), .row 3 1 0 (List.replicate rs.length (.int .i64 0))] = hq H (List.replicate rs.length V0) (List.replicate rs.length 0) := by
    simp [hq, V0]
  have z1 : Wc 4 (.agg [.int .i64 0, .int .i64 0, .str ⟨#[]⟩, .bool false]) := by simp [Wc, DV.cells, DV.one]
  have z2 : Wc 1 (.int .i64 0) := by simp [Wc, DV.cells, DV.one]
  have z3 : (rs.length : Int) * 40 ≤ 140737488355328 := by omega
  have z4 : (rs.length : Int) * 8 ≤ 140737488355328 := by omega
  have c7 := fin_hq (H := H) c4 c5
  rw [hts, hos] at c7
  rw [show ((0 : Nat) : Int) = 0 from rfl, hos] at c1
  unfold lp19_0 at c1
  rw [E_go (X := X) _ b19 _ rfl rfl]; unfold b19
  (repeat (first | rw [s_assoc] | rw [s_seq_reg (by simp [evOps, evOp_n, evOp_r, evOp_d, evOp_dr, kpo_refl, kpo_app, cnd_some, cnd_pair, cnd_cnd_t, cnd_cnd_f, cnd_same, cnd_dvb, cnd_and, cnd_or, ↓evx_pick, gd_bool, gd_boolf, gd_tup, cnd_t, cnd_f, evTo, isCall, evx, put, lk, Od.v, keepEnv, enterEnv, ldx_ref, rdc, binx, binI, binS, unx, eqk, DV.isU, DV.cells, hget, hget0, hset, hset0, stx_ref, splice, DV.one, fillp, mat, eqcs, eqs, hR, z1, z2, z3, z4, hq0]; exact ⟨rfl, rfl⟩)] | rw [s_cnd (by simp [lk, keepEnv, Od.v, hR, z1, z2, z3, z4, hq0]; exact rfl)] | rw [cnd_t] | rw [cnd_f] | rw [s_skip] | rw [s_ret] | rw [s_exit] | rw [C_ret] | rw [C_exit] | rw [C_skip] | rw [blk_ret] | rw [blk_norm] | rw [blk_exit] | rw [blk_exit' (by decide)] | rw [blkT_ret] | rw [blkT_norm] | rw [blkT_exit] | rw [blkT_exit' (by decide)] | rw [s_blk] | rw [s_reg (by simp [evOps, evOp_n, evOp_r, evOp_d, evOp_dr, kpo_refl, kpo_app, cnd_some, cnd_pair, cnd_cnd_t, cnd_cnd_f, cnd_same, cnd_dvb, cnd_and, cnd_or, ↓evx_pick, gd_bool, gd_boolf, gd_tup, cnd_t, cnd_f, evTo, isCall, evx, put, lk, Od.v, keepEnv, enterEnv, ldx_ref, rdc, binx, binI, binS, unx, eqk, DV.isU, DV.cells, hget, hget0, hset, hset0, stx_ref, splice, DV.one, fillp, mat, eqcs, eqs, hR, z1, z2, z3, z4, hq0]; exact ⟨rfl, rfl⟩)] | rw [t_cnd (by simp [lk, keepEnv, Od.v, hR, z1, z2, z3, z4, hq0]; exact rfl)] | rw [t_blk]))
  (try simp only [keepEnv, List.map_cons, List.map_nil, lk, reduceIte, Nat.reduceEqDiff, Nat.zero_ne_one, Nat.one_ne_zero])
  rw [c1]
  (repeat (first | rw [s_assoc] | rw [s_seq_reg (by simp [evOps, evOp_n, evOp_r, evOp_d, evOp_dr, kpo_refl, kpo_app, cnd_some, cnd_pair, cnd_cnd_t, cnd_cnd_f, cnd_same, cnd_dvb, cnd_and, cnd_or, ↓evx_pick, gd_bool, gd_boolf, gd_tup, cnd_t, cnd_f, evTo, isCall, evx, put, lk, Od.v, keepEnv, enterEnv, ldx_ref, rdc, binx, binI, binS, unx, eqk, DV.isU, DV.cells, hget, hget0, hset, hset0, stx_ref, splice, DV.one, fillp, mat, eqcs, eqs, c2, c3]; exact ⟨rfl, rfl⟩)] | rw [s_cnd (by simp [lk, keepEnv, Od.v, c2, c3]; exact rfl)] | rw [cnd_t] | rw [cnd_f] | rw [s_skip] | rw [s_ret] | rw [s_exit] | rw [C_ret] | rw [C_exit] | rw [C_skip] | rw [blk_ret] | rw [blk_norm] | rw [blk_exit] | rw [blk_exit' (by decide)] | rw [blkT_ret] | rw [blkT_norm] | rw [blkT_exit] | rw [blkT_exit' (by decide)] | rw [s_blk] | rw [s_reg (by simp [evOps, evOp_n, evOp_r, evOp_d, evOp_dr, kpo_refl, kpo_app, cnd_some, cnd_pair, cnd_cnd_t, cnd_cnd_f, cnd_same, cnd_dvb, cnd_and, cnd_or, ↓evx_pick, gd_bool, gd_boolf, gd_tup, cnd_t, cnd_f, evTo, isCall, evx, put, lk, Od.v, keepEnv, enterEnv, ldx_ref, rdc, binx, binI, binS, unx, eqk, DV.isU, DV.cells, hget, hget0, hset, hset0, stx_ref, splice, DV.one, fillp, mat, eqcs, eqs, c2, c3]; exact ⟨rfl, rfl⟩)] | rw [t_cnd (by simp [lk, keepEnv, Od.v, c2, c3]; exact rfl)] | rw [t_blk]))
  simp only [ends_ret, resL, keepEnv, List.map_cons, List.map_nil, lk, reduceIte, Nat.reduceEqDiff, Option.map_some]
  rw [c7]
end Go.Proofs.Ytmlfhjpajbmajaa
