/- Ideal runs: the document's answer on queries (winnowerref16): node, agg, Check. -/
import Derived.Test.YtobpbjmnonbblaaDoorQryR
namespace Go.Proofs.YtobpbjmnonbblaaDoor
attribute [local go_sem] evOps evOp_n evOp_r evOp_d evOp_dr kpo_refl kpo_app cnd_some cnd_pair cnd_cnd_t cnd_cnd_f cnd_same cnd_dvb cnd_and cnd_or gd_bool gd_boolf gd_tup cnd_t cnd_f evTo isCall evx put lk Od.v keepEnv enterEnv ldx_ref rdc binx binI binS unx eqk DV.isU DV.cells hget hget0 hset hset0 stx_ref splice fillp mat eqcs eqs one_bool one_int one_str one_nilp one_ref one_elem one_nils one_list one_row one_nilm one_map one_nilf one_func one_nili one_ifc one_agg one_tup one_undef one_fresh
attribute [local go_sem ↓] evx_pick
set_option linter.unusedVariables false
set_option linter.unusedSimpArgs false
set_option maxRecDepth 10000
theorem run37 {Cd : DV} {s : Sch} (hC : ∀ g, vw g 3 Cd = some (s.cols.map Cl.d)) (i : Int) (H : Heap) : E X 37 [schD Cd s, .int .i64 i] H = some (.bool (hasV s i), H) := by
  unfold hasV
  obtain ⟨cols, k1, k2, k3, k4⟩ := s
  simp only [schD, schC] at *
  by_cases c1 : 0 ≤ i
  · rw [E_go (X := X) _ b37 _ rfl rfl]; unfold b37; (repeat (first | rw [s_assoc] | rw [s_seq_reg (by simp [go_sem, hC, c1, ldx]; exact ⟨rfl, rfl⟩)] | rw [s_cnd (by simp [lk, keepEnv, Od.v, hC, c1, ldx]; exact rfl)] | rw [cnd_t] | rw [cnd_f] | rw [s_skip] | rw [s_ret] | rw [s_exit] | rw [C_ret] | rw [C_exit] | rw [C_skip] | rw [blk_ret] | rw [blk_norm] | rw [blk_exit] | rw [blk_exit' (by decide)] | rw [blkT_ret] | rw [blkT_norm] | rw [blkT_exit] | rw [blkT_exit' (by decide)] | rw [s_blk] | rw [s_reg (by simp [go_sem, hC, c1, ldx]; exact ⟨rfl, rfl⟩)] | rw [t_cnd (by simp [lk, keepEnv, Od.v, hC, c1, ldx]; exact rfl)] | rw [t_blk])); simp [ends_ret, ends_norm, resL, go_sem, fin, fz0, fz1, fzT, fzL, nlt, hC, c1, ldx]
  · rw [E_go (X := X) _ b37 _ rfl rfl]; unfold b37; (repeat (first | rw [s_assoc] | rw [s_seq_reg (by simp [go_sem, hC, c1, ldx]; exact ⟨rfl, rfl⟩)] | rw [s_cnd (by simp [lk, keepEnv, Od.v, hC, c1, ldx]; exact rfl)] | rw [cnd_t] | rw [cnd_f] | rw [s_skip] | rw [s_ret] | rw [s_exit] | rw [C_ret] | rw [C_exit] | rw [C_skip] | rw [blk_ret] | rw [blk_norm] | rw [blk_exit] | rw [blk_exit' (by decide)] | rw [blkT_ret] | rw [blkT_norm] | rw [blkT_exit] | rw [blkT_exit' (by decide)] | rw [s_blk] | rw [s_reg (by simp [go_sem, hC, c1, ldx]; exact ⟨rfl, rfl⟩)] | rw [t_cnd (by simp [lk, keepEnv, Od.v, hC, c1, ldx]; exact rfl)] | rw [t_blk])); simp [ends_ret, ends_norm, resL, go_sem, fin, fz0, fz1, fzT, fzL, nlt, hC, c1, ldx]
set_option maxHeartbeats 1000000 in
theorem run38 {Cd : DV} {s : Sch} (hC : ∀ g, vw g 3 Cd = some (s.cols.map Cl.d)) (x : Int × Int) (H : Heap) : E X 38 [schD Cd s, agD x] H = some (.int .i64 (aggV s x), H) := by
  have e37 := fun g => run37 hC x.2 g
  obtain ⟨fn, col⟩ := x
  simp only at e37
  by_cases c1 : fn < 1
  · have hv : aggV s (fn, col) = 1 := by simp [aggV, c1]
    rw [hv]
    obtain ⟨cols, k1, k2, k3, k4⟩ := s
    simp only [schD, schC, agD] at *
    rw [E_go (X := X) _ b38 _ rfl rfl]; unfold b38; (repeat (first | rw [s_assoc] | rw [s_seq_reg (by simp [go_sem, c1]; exact ⟨rfl, rfl⟩)] | rw [s_cnd (by simp [lk, keepEnv, Od.v, c1]; exact rfl)] | rw [cnd_t] | rw [cnd_f] | rw [s_skip] | rw [s_ret] | rw [s_exit] | rw [C_ret] | rw [C_exit] | rw [C_skip] | rw [blk_ret] | rw [blk_norm] | rw [blk_exit] | rw [blk_exit' (by decide)] | rw [blkT_ret] | rw [blkT_norm] | rw [blkT_exit] | rw [blkT_exit' (by decide)] | rw [s_blk] | rw [s_reg (by simp [go_sem, c1]; exact ⟨rfl, rfl⟩)] | rw [t_cnd (by simp [lk, keepEnv, Od.v, c1]; exact rfl)] | rw [t_blk])); simp [ends_ret, ends_norm, resL, go_sem, fin, fz0, fz1, fzT, fzL, nlt, c1]
  by_cases c2 : 5 < fn
  · have hv : aggV s (fn, col) = 1 := by
      have : 6 ≤ fn := by omega
      simp [aggV, this]
    rw [hv]
    obtain ⟨cols, k1, k2, k3, k4⟩ := s
    simp only [schD, schC, agD] at *
    rw [E_go (X := X) _ b38 _ rfl rfl]; unfold b38; (repeat (first | rw [s_assoc] | rw [s_seq_reg (by simp [go_sem, c1, c2]; exact ⟨rfl, rfl⟩)] | rw [s_cnd (by simp [lk, keepEnv, Od.v, c1, c2]; exact rfl)] | rw [cnd_t] | rw [cnd_f] | rw [s_skip] | rw [s_ret] | rw [s_exit] | rw [C_ret] | rw [C_exit] | rw [C_skip] | rw [blk_ret] | rw [blk_norm] | rw [blk_exit] | rw [blk_exit' (by decide)] | rw [blkT_ret] | rw [blkT_norm] | rw [blkT_exit] | rw [blkT_exit' (by decide)] | rw [s_blk] | rw [s_reg (by simp [go_sem, c1, c2]; exact ⟨rfl, rfl⟩)] | rw [t_cnd (by simp [lk, keepEnv, Od.v, c1, c2]; exact rfl)] | rw [t_blk])); simp [ends_ret, ends_norm, resL, go_sem, fin, fz0, fz1, fzT, fzL, nlt, c1, c2]
  have c2' : ¬ 6 ≤ fn := by omega
  by_cases c3 : fn = 1 ∧ col = -1
  · obtain ⟨rfl, rfl⟩ := c3
    have hv : aggV s (1, -1) = 0 := by simp [aggV]
    rw [hv]
    obtain ⟨cols, k1, k2, k3, k4⟩ := s
    simp only [schD, schC, agD] at *
    rw [E_go (X := X) _ b38 _ rfl rfl]; unfold b38; (repeat (first | rw [s_assoc] | rw [s_seq_reg (by simp [go_sem, c1, c2]; exact ⟨rfl, rfl⟩)] | rw [s_cnd (by simp [lk, keepEnv, Od.v, c1, c2]; exact rfl)] | rw [cnd_t] | rw [cnd_f] | rw [s_skip] | rw [s_ret] | rw [s_exit] | rw [C_ret] | rw [C_exit] | rw [C_skip] | rw [blk_ret] | rw [blk_norm] | rw [blk_exit] | rw [blk_exit' (by decide)] | rw [blkT_ret] | rw [blkT_norm] | rw [blkT_exit] | rw [blkT_exit' (by decide)] | rw [s_blk] | rw [s_reg (by simp [go_sem, c1, c2]; exact ⟨rfl, rfl⟩)] | rw [t_cnd (by simp [lk, keepEnv, Od.v, c1, c2]; exact rfl)] | rw [t_blk])); simp [ends_ret, ends_norm, resL, go_sem, fin, fz0, fz1, fzT, fzL, nlt, c1, c2]
  have c4 : fn ≠ 1 ∨ (fn = 1 ∧ col ≠ -1) := by omega
  cases hg : getI s.cols col with
  | none =>
    have hv : aggV s (fn, col) = 3 := by simp [aggV, c1, c2', c3, hg]
    rw [hv]
    rw [has_none hg] at e37
    obtain ⟨cols, k1, k2, k3, k4⟩ := s
    simp only [schD, schC, agD] at *
    clear hv hg
    rcases c4 with c4 | ⟨c4, c5⟩
    · have d4 : (fn == 1) = false := by simpa using c4
      rw [E_go (X := X) _ b38 _ rfl rfl]; unfold b38; (repeat (first | rw [s_assoc] | rw [s_seq_reg (by simp [go_sem, c1, c2, c4, d4, e37]; exact ⟨rfl, rfl⟩)] | rw [s_cnd (by simp [lk, keepEnv, Od.v, c1, c2, c4, d4, e37]; exact rfl)] | rw [cnd_t] | rw [cnd_f] | rw [s_skip] | rw [s_ret] | rw [s_exit] | rw [C_ret] | rw [C_exit] | rw [C_skip] | rw [blk_ret] | rw [blk_norm] | rw [blk_exit] | rw [blk_exit' (by decide)] | rw [blkT_ret] | rw [blkT_norm] | rw [blkT_exit] | rw [blkT_exit' (by decide)] | rw [s_blk] | rw [s_reg (by simp [go_sem, c1, c2, c4, d4, e37]; exact ⟨rfl, rfl⟩)] | rw [t_cnd (by simp [lk, keepEnv, Od.v, c1, c2, c4, d4, e37]; exact rfl)] | rw [t_blk])); simp [ends_ret, ends_norm, resL, go_sem, fin, fz0, fz1, fzT, fzL, nlt, c1, c2, c4, d4, e37]
    · subst c4
      have d5 : (col == -1) = false := by simpa using c5
      rw [E_go (X := X) _ b38 _ rfl rfl]; unfold b38; (repeat (first | rw [s_assoc] | rw [s_seq_reg (by simp [go_sem, c5, d5, e37]; exact ⟨rfl, rfl⟩)] | rw [s_cnd (by simp [lk, keepEnv, Od.v, c5, d5, e37]; exact rfl)] | rw [cnd_t] | rw [cnd_f] | rw [s_skip] | rw [s_ret] | rw [s_exit] | rw [C_ret] | rw [C_exit] | rw [C_skip] | rw [blk_ret] | rw [blk_norm] | rw [blk_exit] | rw [blk_exit' (by decide)] | rw [blkT_ret] | rw [blkT_norm] | rw [blkT_exit] | rw [blkT_exit' (by decide)] | rw [s_blk] | rw [s_reg (by simp [go_sem, c5, d5, e37]; exact ⟨rfl, rfl⟩)] | rw [t_cnd (by simp [lk, keepEnv, Od.v, c5, d5, e37]; exact rfl)] | rw [t_blk])); simp [ends_ret, ends_norm, resL, go_sem, fin, fz0, fz1, fzT, fzL, nlt, c5, d5, e37]
  | some c =>
    obtain ⟨hh, p, rfl, hp, pl, hpe⟩ := has_some hg
    rw [hh] at e37
    have pl1 : (p : Int) < (s.cols.length : Int) := by omega
    by_cases c6 : fn = 2
    · subst c6
      by_cases c7 : c.kd = 1
      · have hv : aggV s (2, (p : Int)) = 0 := by simp [aggV, hg, c7]
        rw [hv]
        obtain ⟨cols, k1, k2, k3, k4⟩ := s
        obtain ⟨cn, ck, cl⟩ := c
        simp only [schD, schC, agD, Cl.d] at *
        subst c7
        have pl : p < cols.length := pl
        clear hv hg hh
        rw [E_go (X := X) _ b38 _ rfl rfl]; unfold b38; (repeat (first | rw [s_assoc] | rw [s_seq_reg (by simp [go_sem, e37, hC, hp, pl, pl1, hpe, ldx]; exact ⟨rfl, rfl⟩)] | rw [s_cnd (by simp [lk, keepEnv, Od.v, e37, hC, hp, pl, pl1, hpe, ldx]; exact rfl)] | rw [cnd_t] | rw [cnd_f] | rw [s_skip] | rw [s_ret] | rw [s_exit] | rw [C_ret] | rw [C_exit] | rw [C_skip] | rw [blk_ret] | rw [blk_norm] | rw [blk_exit] | rw [blk_exit' (by decide)] | rw [blkT_ret] | rw [blkT_norm] | rw [blkT_exit] | rw [blkT_exit' (by decide)] | rw [s_blk] | rw [s_reg (by simp [go_sem, e37, hC, hp, pl, pl1, hpe, ldx]; exact ⟨rfl, rfl⟩)] | rw [t_cnd (by simp [lk, keepEnv, Od.v, e37, hC, hp, pl, pl1, hpe, ldx]; exact rfl)] | rw [t_blk])); simp [ends_ret, ends_norm, resL, go_sem, fin, fz0, fz1, fzT, fzL, nlt, e37, hC, hp, pl, pl1, hpe, ldx]
      · have hv : aggV s (2, (p : Int)) = 9 := by simp [aggV, hg, c7]
        rw [hv]
        obtain ⟨cols, k1, k2, k3, k4⟩ := s
        obtain ⟨cn, ck, cl⟩ := c
        simp only [schD, schC, agD, Cl.d] at *
        have d7 : (ck != 1) = true := by simpa using c7
        have pl : p < cols.length := pl
        clear hv hg hh
        rw [E_go (X := X) _ b38 _ rfl rfl]; unfold b38; (repeat (first | rw [s_assoc] | rw [s_seq_reg (by simp [go_sem, e37, hC, hp, pl, pl1, hpe, c7, d7, ldx]; exact ⟨rfl, rfl⟩)] | rw [s_cnd (by simp [lk, keepEnv, Od.v, e37, hC, hp, pl, pl1, hpe, c7, d7, ldx]; exact rfl)] | rw [cnd_t] | rw [cnd_f] | rw [s_skip] | rw [s_ret] | rw [s_exit] | rw [C_ret] | rw [C_exit] | rw [C_skip] | rw [blk_ret] | rw [blk_norm] | rw [blk_exit] | rw [blk_exit' (by decide)] | rw [blkT_ret] | rw [blkT_norm] | rw [blkT_exit] | rw [blkT_exit' (by decide)] | rw [s_blk] | rw [s_reg (by simp [go_sem, e37, hC, hp, pl, pl1, hpe, c7, d7, ldx]; exact ⟨rfl, rfl⟩)] | rw [t_cnd (by simp [lk, keepEnv, Od.v, e37, hC, hp, pl, pl1, hpe, c7, d7, ldx]; exact rfl)] | rw [t_blk])); simp [ends_ret, ends_norm, resL, go_sem, fin, fz0, fz1, fzT, fzL, nlt, e37, hC, hp, pl, pl1, hpe, c7, d7, ldx]
    · have d6 : (fn == 2) = false := by simpa using c6
      have hv : aggV s (fn, (p : Int)) = 0 := by simp [aggV, c1, c2', hg, c6]
      rw [hv]
      obtain ⟨cols, k1, k2, k3, k4⟩ := s
      obtain ⟨cn, ck, cl⟩ := c
      simp only [schD, schC, agD, Cl.d] at *
      clear hv hg hh
      rcases c4 with c4 | ⟨c4, c5⟩
      · have d4 : (fn == 1) = false := by simpa using c4
        rw [E_go (X := X) _ b38 _ rfl rfl]; unfold b38; (repeat (first | rw [s_assoc] | rw [s_seq_reg (by simp [go_sem, c1, c2, c4, d4, c6, d6, e37]; exact ⟨rfl, rfl⟩)] | rw [s_cnd (by simp [lk, keepEnv, Od.v, c1, c2, c4, d4, c6, d6, e37]; exact rfl)] | rw [cnd_t] | rw [cnd_f] | rw [s_skip] | rw [s_ret] | rw [s_exit] | rw [C_ret] | rw [C_exit] | rw [C_skip] | rw [blk_ret] | rw [blk_norm] | rw [blk_exit] | rw [blk_exit' (by decide)] | rw [blkT_ret] | rw [blkT_norm] | rw [blkT_exit] | rw [blkT_exit' (by decide)] | rw [s_blk] | rw [s_reg (by simp [go_sem, c1, c2, c4, d4, c6, d6, e37]; exact ⟨rfl, rfl⟩)] | rw [t_cnd (by simp [lk, keepEnv, Od.v, c1, c2, c4, d4, c6, d6, e37]; exact rfl)] | rw [t_blk])); simp [ends_ret, ends_norm, resL, go_sem, fin, fz0, fz1, fzT, fzL, nlt, c1, c2, c4, d4, c6, d6, e37]
      · subst c4
        have d5 : ((p : Int) == -1) = false := by simp
        rw [E_go (X := X) _ b38 _ rfl rfl]; unfold b38; (repeat (first | rw [s_assoc] | rw [s_seq_reg (by simp [go_sem, c5, d5, e37]; exact ⟨rfl, rfl⟩)] | rw [s_cnd (by simp [lk, keepEnv, Od.v, c5, d5, e37]; exact rfl)] | rw [cnd_t] | rw [cnd_f] | rw [s_skip] | rw [s_ret] | rw [s_exit] | rw [C_ret] | rw [C_exit] | rw [C_skip] | rw [blk_ret] | rw [blk_norm] | rw [blk_exit] | rw [blk_exit' (by decide)] | rw [blkT_ret] | rw [blkT_norm] | rw [blkT_exit] | rw [blkT_exit' (by decide)] | rw [s_blk] | rw [s_reg (by simp [go_sem, c5, d5, e37]; exact ⟨rfl, rfl⟩)] | rw [t_cnd (by simp [lk, keepEnv, Od.v, c5, d5, e37]; exact rfl)] | rw [t_blk])); simp [ends_ret, ends_norm, resL, go_sem, fin, fz0, fz1, fzT, fzL, nlt, c5, d5, e37]
set_option maxHeartbeats 2000000 in
theorem run36 {Cd : DV} {s : Sch} (hC : ∀ g, vw g 3 Cd = some (s.cols.map Cl.d)) (x : N) (i : Nat) (H : Heap) : E X 36 [schD Cd s, x.d, .int .i64 i] H = some (.int .i64 (nodeV s i x), H) := by
  have e37 := fun g => run37 hC x.col g
  have e51 := fun g => run51 x.val g
  obtain ⟨ask, col, val, xa, xb⟩ := x
  simp only at e37 e51
  by_cases c1 : ask < 0
  · have hn : needsV ask = 5 := by unfold needsV; rw [if_neg (by omega), if_neg (by omega), if_neg (by omega), if_neg (by omega), if_neg (by omega)]
    have hv : nodeV s i ⟨ask, col, val, xa, xb⟩ = 1 := by simp [nodeV, hn]
    rw [hv]
    clear hv hn
    obtain ⟨vk, vn, vs', vt⟩ := val
    obtain ⟨cols, k1, k2, k3, k4⟩ := s
    simp only [schD, schC, N.d, V.d] at *
    rw [E_go (X := X) _ b36 _ rfl rfl]; unfold b36; (repeat (first | rw [s_assoc] | rw [s_seq_reg (by simp [go_sem, c1]; exact ⟨rfl, rfl⟩)] | rw [s_cnd (by simp [lk, keepEnv, Od.v, c1]; exact rfl)] | rw [cnd_t] | rw [cnd_f] | rw [s_skip] | rw [s_ret] | rw [s_exit] | rw [C_ret] | rw [C_exit] | rw [C_skip] | rw [blk_ret] | rw [blk_norm] | rw [blk_exit] | rw [blk_exit' (by decide)] | rw [blkT_ret] | rw [blkT_norm] | rw [blkT_exit] | rw [blkT_exit' (by decide)] | rw [s_blk] | rw [s_reg (by simp [go_sem, c1]; exact ⟨rfl, rfl⟩)] | rw [t_cnd (by simp [lk, keepEnv, Od.v, c1]; exact rfl)] | rw [t_blk])); simp [ends_ret, ends_norm, resL, go_sem, fin, fz0, fz1, fzT, fzL, nlt, c1]
  by_cases c2 : 10 < ask
  · have hn : needsV ask = 5 := by unfold needsV; rw [if_neg (by omega), if_neg (by omega), if_neg (by omega), if_neg (by omega), if_neg (by omega)]
    have hv : nodeV s i ⟨ask, col, val, xa, xb⟩ = 1 := by simp [nodeV, hn]
    rw [hv]
    clear hv hn
    obtain ⟨vk, vn, vs', vt⟩ := val
    obtain ⟨cols, k1, k2, k3, k4⟩ := s
    simp only [schD, schC, N.d, V.d] at *
    rw [E_go (X := X) _ b36 _ rfl rfl]; unfold b36; (repeat (first | rw [s_assoc] | rw [s_seq_reg (by simp [go_sem, c1, c2]; exact ⟨rfl, rfl⟩)] | rw [s_cnd (by simp [lk, keepEnv, Od.v, c1, c2]; exact rfl)] | rw [cnd_t] | rw [cnd_f] | rw [s_skip] | rw [s_ret] | rw [s_exit] | rw [C_ret] | rw [C_exit] | rw [C_skip] | rw [blk_ret] | rw [blk_norm] | rw [blk_exit] | rw [blk_exit' (by decide)] | rw [blkT_ret] | rw [blkT_norm] | rw [blkT_exit] | rw [blkT_exit' (by decide)] | rw [s_blk] | rw [s_reg (by simp [go_sem, c1, c2]; exact ⟨rfl, rfl⟩)] | rw [t_cnd (by simp [lk, keepEnv, Od.v, c1, c2]; exact rfl)] | rw [t_blk])); simp [ends_ret, ends_norm, resL, go_sem, fin, fz0, fz1, fzT, fzL, nlt, c1, c2]
  by_cases c3 : ask = 0
  · subst c3
    have hv : nodeV s i ⟨0, col, val, xa, xb⟩ = 0 := by simp [nodeV, needsV]
    rw [hv]
    clear hv
    obtain ⟨vk, vn, vs', vt⟩ := val
    obtain ⟨cols, k1, k2, k3, k4⟩ := s
    simp only [schD, schC, N.d, V.d] at *
    rw [E_go (X := X) _ b36 _ rfl rfl]; unfold b36; (repeat (first | rw [s_assoc] | rw [s_seq_reg (by simp [go_sem]; exact ⟨rfl, rfl⟩)] | rw [s_cnd (by simp [lk, keepEnv, Od.v]; exact rfl)] | rw [cnd_t] | rw [cnd_f] | rw [s_skip] | rw [s_ret] | rw [s_exit] | rw [C_ret] | rw [C_exit] | rw [C_skip] | rw [blk_ret] | rw [blk_norm] | rw [blk_exit] | rw [blk_exit' (by decide)] | rw [blkT_ret] | rw [blkT_norm] | rw [blkT_exit] | rw [blkT_exit' (by decide)] | rw [s_blk] | rw [s_reg (by simp [go_sem]; exact ⟨rfl, rfl⟩)] | rw [t_cnd (by simp [lk, keepEnv, Od.v]; exact rfl)] | rw [t_blk])); simp [ends_ret, ends_norm, resL, go_sem, fin, fz0, fz1, fzT, fzL, nlt]
  by_cases c4 : ask ≤ 6
  · have hn : needsV ask = 1 := by unfold needsV; rw [if_neg (by omega), if_pos (by omega)]
    have a1 : 1 ≤ ask := by omega
    have a7 : ask ≤ 7 := by omega
    have a8 : ¬ 8 ≤ ask := by omega
    have b8 : (ask == 8) = false := by simp; omega
    have b9 : (ask == 9) = false := by simp; omega
    have n7 : ask ≠ 7 := by omega
    cases hg : getI s.cols col with
    | none =>
      have hv : nodeV s i ⟨ask, col, val, xa, xb⟩ = 3 := by simp [nodeV, hn, hg]
      rw [hv]
      rw [has_none hg] at e37
      clear hv hn hg
      obtain ⟨vk, vn, vs', vt⟩ := val
      obtain ⟨cols, k1, k2, k3, k4⟩ := s
      simp only [schD, schC, N.d, V.d] at *
      rw [E_go (X := X) _ b36 _ rfl rfl]; unfold b36; (repeat (first | rw [s_assoc] | rw [s_seq_reg (by simp [go_sem, c1, c2, c4, a1, a7, a8, b8, b9, e37]; exact ⟨rfl, rfl⟩)] | rw [s_cnd (by simp [lk, keepEnv, Od.v, c1, c2, c4, a1, a7, a8, b8, b9, e37]; exact rfl)] | rw [cnd_t] | rw [cnd_f] | rw [s_skip] | rw [s_ret] | rw [s_exit] | rw [C_ret] | rw [C_exit] | rw [C_skip] | rw [blk_ret] | rw [blk_norm] | rw [blk_exit] | rw [blk_exit' (by decide)] | rw [blkT_ret] | rw [blkT_norm] | rw [blkT_exit] | rw [blkT_exit' (by decide)] | rw [s_blk] | rw [s_reg (by simp [go_sem, c1, c2, c4, a1, a7, a8, b8, b9, e37]; exact ⟨rfl, rfl⟩)] | rw [t_cnd (by simp [lk, keepEnv, Od.v, c1, c2, c4, a1, a7, a8, b8, b9, e37]; exact rfl)] | rw [t_blk])); simp [ends_ret, ends_norm, resL, go_sem, fin, fz0, fz1, fzT, fzL, nlt, c1, c2, c4, a1, a7, a8, b8, b9, e37]
    | some c =>
      obtain ⟨hh, p, rfl, hp, pl, hpe⟩ := has_some hg
      rw [hh] at e37
      have pl1 : (p : Int) < (s.cols.length : Int) := by omega
      cases hm : mayV val with
      | false =>
        have hv : nodeV s i ⟨ask, (p : Int), val, xa, xb⟩ = 9 := by simp [nodeV, hn, hg, n7, hm]
        rw [hv]
        rw [hm] at e51
        clear hv hn hg hm
        obtain ⟨vk, vn, vs', vt⟩ := val
        obtain ⟨cols, k1, k2, k3, k4⟩ := s
        simp only [schD, schC, N.d, V.d] at *
        rw [E_go (X := X) _ b36 _ rfl rfl]; unfold b36; (repeat (first | rw [s_assoc] | rw [s_seq_reg (by simp [go_sem, c1, c2, c4, a1, a7, a8, b8, b9, e37, e51, ldx]; exact ⟨rfl, rfl⟩)] | rw [s_cnd (by simp [lk, keepEnv, Od.v, c1, c2, c4, a1, a7, a8, b8, b9, e37, e51, ldx]; exact rfl)] | rw [cnd_t] | rw [cnd_f] | rw [s_skip] | rw [s_ret] | rw [s_exit] | rw [C_ret] | rw [C_exit] | rw [C_skip] | rw [blk_ret] | rw [blk_norm] | rw [blk_exit] | rw [blk_exit' (by decide)] | rw [blkT_ret] | rw [blkT_norm] | rw [blkT_exit] | rw [blkT_exit' (by decide)] | rw [s_blk] | rw [s_reg (by simp [go_sem, c1, c2, c4, a1, a7, a8, b8, b9, e37, e51, ldx]; exact ⟨rfl, rfl⟩)] | rw [t_cnd (by simp [lk, keepEnv, Od.v, c1, c2, c4, a1, a7, a8, b8, b9, e37, e51, ldx]; exact rfl)] | rw [t_blk])); simp [ends_ret, ends_norm, resL, go_sem, fin, fz0, fz1, fzT, fzL, nlt, c1, c2, c4, a1, a7, a8, b8, b9, e37, e51, ldx]
      | true =>
        rw [hm] at e51
        by_cases hk : val.k = c.kd
        · have hv : nodeV s i ⟨ask, (p : Int), val, xa, xb⟩ = 0 := by simp [nodeV, hn, hg, hk, hm]
          rw [hv]
          clear hv hn hg hm
          have hk' : (val.k != c.kd) = false := by simpa using hk
          clear hk
          obtain ⟨vk, vn, vs', vt⟩ := val
          obtain ⟨cols, k1, k2, k3, k4⟩ := s
          obtain ⟨cn, ck, cl⟩ := c
          simp only [schD, schC, N.d, V.d, Cl.d] at *
          have pl : p < cols.length := pl
          rw [E_go (X := X) _ b36 _ rfl rfl]; unfold b36; (repeat (first | rw [s_assoc] | rw [s_seq_reg (by simp [go_sem, c1, c2, c4, a1, a7, a8, b8, b9, e37, e51, hC, hp, pl, pl1, hpe, hk', ldx]; exact ⟨rfl, rfl⟩)] | rw [s_cnd (by simp [lk, keepEnv, Od.v, c1, c2, c4, a1, a7, a8, b8, b9, e37, e51, hC, hp, pl, pl1, hpe, hk', ldx]; exact rfl)] | rw [cnd_t] | rw [cnd_f] | rw [s_skip] | rw [s_ret] | rw [s_exit] | rw [C_ret] | rw [C_exit] | rw [C_skip] | rw [blk_ret] | rw [blk_norm] | rw [blk_exit] | rw [blk_exit' (by decide)] | rw [blkT_ret] | rw [blkT_norm] | rw [blkT_exit] | rw [blkT_exit' (by decide)] | rw [s_blk] | rw [s_reg (by simp [go_sem, c1, c2, c4, a1, a7, a8, b8, b9, e37, e51, hC, hp, pl, pl1, hpe, hk', ldx]; exact ⟨rfl, rfl⟩)] | rw [t_cnd (by simp [lk, keepEnv, Od.v, c1, c2, c4, a1, a7, a8, b8, b9, e37, e51, hC, hp, pl, pl1, hpe, hk', ldx]; exact rfl)] | rw [t_blk])); simp [ends_ret, ends_norm, resL, go_sem, fin, fz0, fz1, fzT, fzL, nlt, c1, c2, c4, a1, a7, a8, b8, b9, e37, e51, hC, hp, pl, pl1, hpe, hk', ldx]
        · have hv : nodeV s i ⟨ask, (p : Int), val, xa, xb⟩ = 9 := by simp [nodeV, hn, hg, n7, hk]
          rw [hv]
          clear hv hn hg hm
          have hk' : (val.k != c.kd) = true := by simpa using hk
          obtain ⟨vk, vn, vs', vt⟩ := val
          obtain ⟨cols, k1, k2, k3, k4⟩ := s
          obtain ⟨cn, ck, cl⟩ := c
          simp only [schD, schC, N.d, V.d, Cl.d] at *
          have pl : p < cols.length := pl
          rw [E_go (X := X) _ b36 _ rfl rfl]; unfold b36; (repeat (first | rw [s_assoc] | rw [s_seq_reg (by simp [go_sem, c1, c2, c4, a1, a7, a8, b8, b9, e37, e51, hC, hp, pl, pl1, hpe, hk', ldx]; exact ⟨rfl, rfl⟩)] | rw [s_cnd (by simp [lk, keepEnv, Od.v, c1, c2, c4, a1, a7, a8, b8, b9, e37, e51, hC, hp, pl, pl1, hpe, hk', ldx]; exact rfl)] | rw [cnd_t] | rw [cnd_f] | rw [s_skip] | rw [s_ret] | rw [s_exit] | rw [C_ret] | rw [C_exit] | rw [C_skip] | rw [blk_ret] | rw [blk_norm] | rw [blk_exit] | rw [blk_exit' (by decide)] | rw [blkT_ret] | rw [blkT_norm] | rw [blkT_exit] | rw [blkT_exit' (by decide)] | rw [s_blk] | rw [s_reg (by simp [go_sem, c1, c2, c4, a1, a7, a8, b8, b9, e37, e51, hC, hp, pl, pl1, hpe, hk', ldx]; exact ⟨rfl, rfl⟩)] | rw [t_cnd (by simp [lk, keepEnv, Od.v, c1, c2, c4, a1, a7, a8, b8, b9, e37, e51, hC, hp, pl, pl1, hpe, hk', ldx]; exact rfl)] | rw [t_blk])); simp [ends_ret, ends_norm, resL, go_sem, fin, fz0, fz1, fzT, fzL, nlt, c1, c2, c4, a1, a7, a8, b8, b9, e37, e51, hC, hp, pl, pl1, hpe, hk', ldx]
  by_cases c5 : ask = 7
  · subst c5
    cases hg : getI s.cols col with
    | none =>
      have hv : nodeV s i ⟨7, col, val, xa, xb⟩ = 3 := by simp [nodeV, needsV, hg]
      rw [hv]
      rw [has_none hg] at e37
      clear hv hg
      obtain ⟨vk, vn, vs', vt⟩ := val
      obtain ⟨cols, k1, k2, k3, k4⟩ := s
      simp only [schD, schC, N.d, V.d] at *
      rw [E_go (X := X) _ b36 _ rfl rfl]; unfold b36; (repeat (first | rw [s_assoc] | rw [s_seq_reg (by simp [go_sem, e37]; exact ⟨rfl, rfl⟩)] | rw [s_cnd (by simp [lk, keepEnv, Od.v, e37]; exact rfl)] | rw [cnd_t] | rw [cnd_f] | rw [s_skip] | rw [s_ret] | rw [s_exit] | rw [C_ret] | rw [C_exit] | rw [C_skip] | rw [blk_ret] | rw [blk_norm] | rw [blk_exit] | rw [blk_exit' (by decide)] | rw [blkT_ret] | rw [blkT_norm] | rw [blkT_exit] | rw [blkT_exit' (by decide)] | rw [s_blk] | rw [s_reg (by simp [go_sem, e37]; exact ⟨rfl, rfl⟩)] | rw [t_cnd (by simp [lk, keepEnv, Od.v, e37]; exact rfl)] | rw [t_blk])); simp [ends_ret, ends_norm, resL, go_sem, fin, fz0, fz1, fzT, fzL, nlt, e37]
    | some c =>
      have hv : nodeV s i ⟨7, col, val, xa, xb⟩ = 0 := by simp [nodeV, needsV, hg]
      rw [hv]
      obtain ⟨hh, p, rfl, hp, pl, hpe⟩ := has_some hg
      rw [hh] at e37
      clear hv hg
      obtain ⟨vk, vn, vs', vt⟩ := val
      obtain ⟨cols, k1, k2, k3, k4⟩ := s
      simp only [schD, schC, N.d, V.d] at *
      rw [E_go (X := X) _ b36 _ rfl rfl]; unfold b36; (repeat (first | rw [s_assoc] | rw [s_seq_reg (by simp [go_sem, e37]; exact ⟨rfl, rfl⟩)] | rw [s_cnd (by simp [lk, keepEnv, Od.v, e37]; exact rfl)] | rw [cnd_t] | rw [cnd_f] | rw [s_skip] | rw [s_ret] | rw [s_exit] | rw [C_ret] | rw [C_exit] | rw [C_skip] | rw [blk_ret] | rw [blk_norm] | rw [blk_exit] | rw [blk_exit' (by decide)] | rw [blkT_ret] | rw [blkT_norm] | rw [blkT_exit] | rw [blkT_exit' (by decide)] | rw [s_blk] | rw [s_reg (by simp [go_sem, e37]; exact ⟨rfl, rfl⟩)] | rw [t_cnd (by simp [lk, keepEnv, Od.v, e37]; exact rfl)] | rw [t_blk])); simp [ends_ret, ends_norm, resL, go_sem, fin, fz0, fz1, fzT, fzL, nlt, e37]
  by_cases c6 : ask = 10
  · subst c6
    have hv : nodeV s i ⟨10, col, val, xa, xb⟩ = if ahV i xa = true then 0 else 5 := by simp [nodeV, needsV]
    rw [hv]
    clear hv
    by_cases q1 : xa < 0
    · have hah : ahV i xa = false := by
        have : ¬ 0 ≤ xa := by omega
        simp [ahV, this]
      rw [hah, if_neg (by simp)]
      obtain ⟨vk, vn, vs', vt⟩ := val
      obtain ⟨cols, k1, k2, k3, k4⟩ := s
      simp only [schD, schC, N.d, V.d] at *
      rw [E_go (X := X) _ b36 _ rfl rfl]; unfold b36; (repeat (first | rw [s_assoc] | rw [s_seq_reg (by simp [go_sem, q1]; exact ⟨rfl, rfl⟩)] | rw [s_cnd (by simp [lk, keepEnv, Od.v, q1]; exact rfl)] | rw [cnd_t] | rw [cnd_f] | rw [s_skip] | rw [s_ret] | rw [s_exit] | rw [C_ret] | rw [C_exit] | rw [C_skip] | rw [blk_ret] | rw [blk_norm] | rw [blk_exit] | rw [blk_exit' (by decide)] | rw [blkT_ret] | rw [blkT_norm] | rw [blkT_exit] | rw [blkT_exit' (by decide)] | rw [s_blk] | rw [s_reg (by simp [go_sem, q1]; exact ⟨rfl, rfl⟩)] | rw [t_cnd (by simp [lk, keepEnv, Od.v, q1]; exact rfl)] | rw [t_blk])); simp [ends_ret, ends_norm, resL, go_sem, fin, fz0, fz1, fzT, fzL, nlt, q1]
    by_cases q2 : (i : Int) ≤ xa
    · have hah : ahV i xa = false := by
        have : ¬ xa < (i : Int) := by omega
        simp [ahV, this]
      rw [hah, if_neg (by simp)]
      obtain ⟨vk, vn, vs', vt⟩ := val
      obtain ⟨cols, k1, k2, k3, k4⟩ := s
      simp only [schD, schC, N.d, V.d] at *
      rw [E_go (X := X) _ b36 _ rfl rfl]; unfold b36; (repeat (first | rw [s_assoc] | rw [s_seq_reg (by simp [go_sem, q1, q2]; exact ⟨rfl, rfl⟩)] | rw [s_cnd (by simp [lk, keepEnv, Od.v, q1, q2]; exact rfl)] | rw [cnd_t] | rw [cnd_f] | rw [s_skip] | rw [s_ret] | rw [s_exit] | rw [C_ret] | rw [C_exit] | rw [C_skip] | rw [blk_ret] | rw [blk_norm] | rw [blk_exit] | rw [blk_exit' (by decide)] | rw [blkT_ret] | rw [blkT_norm] | rw [blkT_exit] | rw [blkT_exit' (by decide)] | rw [s_blk] | rw [s_reg (by simp [go_sem, q1, q2]; exact ⟨rfl, rfl⟩)] | rw [t_cnd (by simp [lk, keepEnv, Od.v, q1, q2]; exact rfl)] | rw [t_blk])); simp [ends_ret, ends_norm, resL, go_sem, fin, fz0, fz1, fzT, fzL, nlt, q1, q2]
    · have hah : ahV i xa = true := by
        have h1 : 0 ≤ xa := by omega
        have h2 : xa < (i : Int) := by omega
        simp [ahV, h1, h2]
      rw [hah, if_pos rfl]
      obtain ⟨vk, vn, vs', vt⟩ := val
      obtain ⟨cols, k1, k2, k3, k4⟩ := s
      simp only [schD, schC, N.d, V.d] at *
      rw [E_go (X := X) _ b36 _ rfl rfl]; unfold b36; (repeat (first | rw [s_assoc] | rw [s_seq_reg (by simp [go_sem, q1, q2]; exact ⟨rfl, rfl⟩)] | rw [s_cnd (by simp [lk, keepEnv, Od.v, q1, q2]; exact rfl)] | rw [cnd_t] | rw [cnd_f] | rw [s_skip] | rw [s_ret] | rw [s_exit] | rw [C_ret] | rw [C_exit] | rw [C_skip] | rw [blk_ret] | rw [blk_norm] | rw [blk_exit] | rw [blk_exit' (by decide)] | rw [blkT_ret] | rw [blkT_norm] | rw [blkT_exit] | rw [blkT_exit' (by decide)] | rw [s_blk] | rw [s_reg (by simp [go_sem, q1, q2]; exact ⟨rfl, rfl⟩)] | rw [t_cnd (by simp [lk, keepEnv, Od.v, q1, q2]; exact rfl)] | rw [t_blk])); simp [ends_ret, ends_norm, resL, go_sem, fin, fz0, fz1, fzT, fzL, nlt, q1, q2]
  have c7 : ask = 8 ∨ ask = 9 := by omega
  have hv : nodeV s i ⟨ask, col, val, xa, xb⟩ = if ahV i xa = true ∧ ahV i xb = true then 0 else 5 := by
    rcases c7 with rfl | rfl <;> simp [nodeV, needsV]
  rw [hv]
  clear hv c1 c2 c3 c4 c5 c6
  by_cases q1 : xa < 0
  · have hah : ahV i xa = false := by
      have : ¬ 0 ≤ xa := by omega
      simp [ahV, this]
    rw [hah, if_neg (by simp)]
    obtain ⟨vk, vn, vs', vt⟩ := val
    obtain ⟨cols, k1, k2, k3, k4⟩ := s
    simp only [schD, schC, N.d, V.d] at *
    rcases c7 with rfl | rfl
    all_goals
      rw [E_go (X := X) _ b36 _ rfl rfl]; unfold b36; (repeat (first | rw [s_assoc] | rw [s_seq_reg (by simp [go_sem, q1]; exact ⟨rfl, rfl⟩)] | rw [s_cnd (by simp [lk, keepEnv, Od.v, q1]; exact rfl)] | rw [cnd_t] | rw [cnd_f] | rw [s_skip] | rw [s_ret] | rw [s_exit] | rw [C_ret] | rw [C_exit] | rw [C_skip] | rw [blk_ret] | rw [blk_norm] | rw [blk_exit] | rw [blk_exit' (by decide)] | rw [blkT_ret] | rw [blkT_norm] | rw [blkT_exit] | rw [blkT_exit' (by decide)] | rw [s_blk] | rw [s_reg (by simp [go_sem, q1]; exact ⟨rfl, rfl⟩)] | rw [t_cnd (by simp [lk, keepEnv, Od.v, q1]; exact rfl)] | rw [t_blk])); simp [ends_ret, ends_norm, resL, go_sem, fin, fz0, fz1, fzT, fzL, nlt, q1]
  by_cases q2 : (i : Int) ≤ xa
  · have hah : ahV i xa = false := by
      have : ¬ xa < (i : Int) := by omega
      simp [ahV, this]
    rw [hah, if_neg (by simp)]
    obtain ⟨vk, vn, vs', vt⟩ := val
    obtain ⟨cols, k1, k2, k3, k4⟩ := s
    simp only [schD, schC, N.d, V.d] at *
    rcases c7 with rfl | rfl
    all_goals
      rw [E_go (X := X) _ b36 _ rfl rfl]; unfold b36; (repeat (first | rw [s_assoc] | rw [s_seq_reg (by simp [go_sem, q1, q2]; exact ⟨rfl, rfl⟩)] | rw [s_cnd (by simp [lk, keepEnv, Od.v, q1, q2]; exact rfl)] | rw [cnd_t] | rw [cnd_f] | rw [s_skip] | rw [s_ret] | rw [s_exit] | rw [C_ret] | rw [C_exit] | rw [C_skip] | rw [blk_ret] | rw [blk_norm] | rw [blk_exit] | rw [blk_exit' (by decide)] | rw [blkT_ret] | rw [blkT_norm] | rw [blkT_exit] | rw [blkT_exit' (by decide)] | rw [s_blk] | rw [s_reg (by simp [go_sem, q1, q2]; exact ⟨rfl, rfl⟩)] | rw [t_cnd (by simp [lk, keepEnv, Od.v, q1, q2]; exact rfl)] | rw [t_blk])); simp [ends_ret, ends_norm, resL, go_sem, fin, fz0, fz1, fzT, fzL, nlt, q1, q2]
  have hah : ahV i xa = true := by
    have h1 : 0 ≤ xa := by omega
    have h2 : xa < (i : Int) := by omega
    simp [ahV, h1, h2]
  by_cases q3 : xb < 0
  · have hbh : ahV i xb = false := by
      have : ¬ 0 ≤ xb := by omega
      simp [ahV, this]
    rw [hbh, if_neg (by simp)]
    obtain ⟨vk, vn, vs', vt⟩ := val
    obtain ⟨cols, k1, k2, k3, k4⟩ := s
    simp only [schD, schC, N.d, V.d] at *
    rcases c7 with rfl | rfl
    all_goals
      rw [E_go (X := X) _ b36 _ rfl rfl]; unfold b36; (repeat (first | rw [s_assoc] | rw [s_seq_reg (by simp [go_sem, q1, q2, q3]; exact ⟨rfl, rfl⟩)] | rw [s_cnd (by simp [lk, keepEnv, Od.v, q1, q2, q3]; exact rfl)] | rw [cnd_t] | rw [cnd_f] | rw [s_skip] | rw [s_ret] | rw [s_exit] | rw [C_ret] | rw [C_exit] | rw [C_skip] | rw [blk_ret] | rw [blk_norm] | rw [blk_exit] | rw [blk_exit' (by decide)] | rw [blkT_ret] | rw [blkT_norm] | rw [blkT_exit] | rw [blkT_exit' (by decide)] | rw [s_blk] | rw [s_reg (by simp [go_sem, q1, q2, q3]; exact ⟨rfl, rfl⟩)] | rw [t_cnd (by simp [lk, keepEnv, Od.v, q1, q2, q3]; exact rfl)] | rw [t_blk])); simp [ends_ret, ends_norm, resL, go_sem, fin, fz0, fz1, fzT, fzL, nlt, q1, q2, q3]
  by_cases q4 : (i : Int) ≤ xb
  · have hbh : ahV i xb = false := by
      have : ¬ xb < (i : Int) := by omega
      simp [ahV, this]
    rw [hbh, if_neg (by simp)]
    obtain ⟨vk, vn, vs', vt⟩ := val
    obtain ⟨cols, k1, k2, k3, k4⟩ := s
    simp only [schD, schC, N.d, V.d] at *
    rcases c7 with rfl | rfl
    all_goals
      rw [E_go (X := X) _ b36 _ rfl rfl]; unfold b36; (repeat (first | rw [s_assoc] | rw [s_seq_reg (by simp [go_sem, q1, q2, q3, q4]; exact ⟨rfl, rfl⟩)] | rw [s_cnd (by simp [lk, keepEnv, Od.v, q1, q2, q3, q4]; exact rfl)] | rw [cnd_t] | rw [cnd_f] | rw [s_skip] | rw [s_ret] | rw [s_exit] | rw [C_ret] | rw [C_exit] | rw [C_skip] | rw [blk_ret] | rw [blk_norm] | rw [blk_exit] | rw [blk_exit' (by decide)] | rw [blkT_ret] | rw [blkT_norm] | rw [blkT_exit] | rw [blkT_exit' (by decide)] | rw [s_blk] | rw [s_reg (by simp [go_sem, q1, q2, q3, q4]; exact ⟨rfl, rfl⟩)] | rw [t_cnd (by simp [lk, keepEnv, Od.v, q1, q2, q3, q4]; exact rfl)] | rw [t_blk])); simp [ends_ret, ends_norm, resL, go_sem, fin, fz0, fz1, fzT, fzL, nlt, q1, q2, q3, q4]
  have hbh : ahV i xb = true := by
    have h1 : 0 ≤ xb := by omega
    have h2 : xb < (i : Int) := by omega
    simp [ahV, h1, h2]
  rw [if_pos ⟨hah, hbh⟩]
  obtain ⟨vk, vn, vs', vt⟩ := val
  obtain ⟨cols, k1, k2, k3, k4⟩ := s
  simp only [schD, schC, N.d, V.d] at *
  rcases c7 with rfl | rfl
  all_goals
    rw [E_go (X := X) _ b36 _ rfl rfl]; unfold b36; (repeat (first | rw [s_assoc] | rw [s_seq_reg (by simp [go_sem, q1, q2, q3, q4]; exact ⟨rfl, rfl⟩)] | rw [s_cnd (by simp [lk, keepEnv, Od.v, q1, q2, q3, q4]; exact rfl)] | rw [cnd_t] | rw [cnd_f] | rw [s_skip] | rw [s_ret] | rw [s_exit] | rw [C_ret] | rw [C_exit] | rw [C_skip] | rw [blk_ret] | rw [blk_norm] | rw [blk_exit] | rw [blk_exit' (by decide)] | rw [blkT_ret] | rw [blkT_norm] | rw [blkT_exit] | rw [blkT_exit' (by decide)] | rw [s_blk] | rw [s_reg (by simp [go_sem, q1, q2, q3, q4]; exact ⟨rfl, rfl⟩)] | rw [t_cnd (by simp [lk, keepEnv, Od.v, q1, q2, q3, q4]; exact rfl)] | rw [t_blk])); simp [ends_ret, ends_norm, resL, go_sem, fin, fz0, fz1, fzT, fzL, nlt, q1, q2, q3, q4]
end Go.Proofs.YtobpbjmnonbblaaDoor
