/- Ideal runs: which values may be. -/
import Derived.Test.YtobpbjmnonbblaaDoorPlainB
namespace Go.Proofs.YtobpbjmnonbblaaDoor
attribute [local go_sem] evOps evOp_n evOp_r evOp_d evOp_dr kpo_refl kpo_app cnd_some cnd_pair cnd_cnd_t cnd_cnd_f cnd_same cnd_dvb cnd_and cnd_or gd_bool gd_boolf gd_tup cnd_t cnd_f evTo isCall evx put lk Od.v keepEnv enterEnv ldx_ref rdc binx binI binS unx eqk DV.isU DV.cells hget hget0 hset hset0 stx_ref splice fillp mat eqcs eqs one_bool one_int one_str one_nilp one_ref one_elem one_nils one_list one_row one_nilm one_map one_nilf one_func one_nili one_ifc one_agg one_tup one_undef one_fresh
attribute [local go_sem ↓] evx_pick
set_option linter.unusedVariables false
set_option linter.unusedSimpArgs false
set_option maxRecDepth 10000
def emp : ByteArray := ⟨#[]⟩
def mayV (v : V) : Bool := if v.k = 1 then v.s == ⟨#[]⟩ && !v.t else if v.k = 2 then v.n == 0 && !v.t && decide (v.s.size ≤ 64) else if v.k = 3 then v.n == 0 && v.s == ⟨#[]⟩ else if v.k = 0 then v.n == 0 && v.s == ⟨#[]⟩ && !v.t else false
theorem run43 (v : V) (h : Heap) : E X 43 [v.d] h = some (.bool (mayV v), h) := by
  obtain ⟨k, n, s, t⟩ := v
  by_cases h1 : k = 1
  · subst h1
    rw [E_go (X := X) _ b43 _ rfl rfl]; unfold b43; (repeat (first | rw [s_assoc] | rw [s_seq_reg (by simp [go_sem, mayV]; exact ⟨rfl, rfl⟩)] | rw [s_cnd (by simp [lk, keepEnv, Od.v, mayV]; exact rfl)] | rw [cnd_t] | rw [cnd_f] | rw [s_skip] | rw [s_ret] | rw [s_exit] | rw [C_ret] | rw [C_exit] | rw [C_skip] | rw [blk_ret] | rw [blk_norm] | rw [blk_exit] | rw [blk_exit' (by decide)] | rw [blkT_ret] | rw [blkT_norm] | rw [blkT_exit] | rw [blkT_exit' (by decide)] | rw [s_blk] | rw [s_reg (by simp [go_sem, mayV]; exact ⟨rfl, rfl⟩)] | rw [t_cnd (by simp [lk, keepEnv, Od.v, mayV]; exact rfl)] | rw [t_blk])); simp [ends_ret, ends_norm, resL, go_sem, fin, fz0, fz1, fzT, fzL, nlt, mayV]
  have e1 : (k == 1) = false := by simpa using h1
  by_cases h2 : k = 2
  · subst h2
    by_cases h5 : s.size ≤ 64
    · have e5 : ¬ (64 : Int) < (s.size : Int) := by omega
      rw [E_go (X := X) _ b43 _ rfl rfl]; unfold b43; (repeat (first | rw [s_assoc] | rw [s_seq_reg (by simp [go_sem, mayV, h5, e5, beq_bytes]; exact ⟨rfl, rfl⟩)] | rw [s_cnd (by simp [lk, keepEnv, Od.v, mayV, h5, e5, beq_bytes]; exact rfl)] | rw [cnd_t] | rw [cnd_f] | rw [s_skip] | rw [s_ret] | rw [s_exit] | rw [C_ret] | rw [C_exit] | rw [C_skip] | rw [blk_ret] | rw [blk_norm] | rw [blk_exit] | rw [blk_exit' (by decide)] | rw [blkT_ret] | rw [blkT_norm] | rw [blkT_exit] | rw [blkT_exit' (by decide)] | rw [s_blk] | rw [s_reg (by simp [go_sem, mayV, h5, e5, beq_bytes]; exact ⟨rfl, rfl⟩)] | rw [t_cnd (by simp [lk, keepEnv, Od.v, mayV, h5, e5, beq_bytes]; exact rfl)] | rw [t_blk])); simp [ends_ret, ends_norm, resL, go_sem, fin, fz0, fz1, fzT, fzL, nlt, mayV, h5, e5, beq_bytes]
    · have e5 : (64 : Int) < (s.size : Int) := by omega
      rw [E_go (X := X) _ b43 _ rfl rfl]; unfold b43; (repeat (first | rw [s_assoc] | rw [s_seq_reg (by simp [go_sem, mayV, h5, e5]; exact ⟨rfl, rfl⟩)] | rw [s_cnd (by simp [lk, keepEnv, Od.v, mayV, h5, e5]; exact rfl)] | rw [cnd_t] | rw [cnd_f] | rw [s_skip] | rw [s_ret] | rw [s_exit] | rw [C_ret] | rw [C_exit] | rw [C_skip] | rw [blk_ret] | rw [blk_norm] | rw [blk_exit] | rw [blk_exit' (by decide)] | rw [blkT_ret] | rw [blkT_norm] | rw [blkT_exit] | rw [blkT_exit' (by decide)] | rw [s_blk] | rw [s_reg (by simp [go_sem, mayV, h5, e5]; exact ⟨rfl, rfl⟩)] | rw [t_cnd (by simp [lk, keepEnv, Od.v, mayV, h5, e5]; exact rfl)] | rw [t_blk])); simp [ends_ret, ends_norm, resL, go_sem, fin, fz0, fz1, fzT, fzL, nlt, mayV, h5, e5]
  have e2 : (k == 2) = false := by simpa using h2
  by_cases h3 : k = 3
  · subst h3
    rw [E_go (X := X) _ b43 _ rfl rfl]; unfold b43; (repeat (first | rw [s_assoc] | rw [s_seq_reg (by simp [go_sem, mayV]; exact ⟨rfl, rfl⟩)] | rw [s_cnd (by simp [lk, keepEnv, Od.v, mayV]; exact rfl)] | rw [cnd_t] | rw [cnd_f] | rw [s_skip] | rw [s_ret] | rw [s_exit] | rw [C_ret] | rw [C_exit] | rw [C_skip] | rw [blk_ret] | rw [blk_norm] | rw [blk_exit] | rw [blk_exit' (by decide)] | rw [blkT_ret] | rw [blkT_norm] | rw [blkT_exit] | rw [blkT_exit' (by decide)] | rw [s_blk] | rw [s_reg (by simp [go_sem, mayV]; exact ⟨rfl, rfl⟩)] | rw [t_cnd (by simp [lk, keepEnv, Od.v, mayV]; exact rfl)] | rw [t_blk])); simp [ends_ret, ends_norm, resL, go_sem, fin, fz0, fz1, fzT, fzL, nlt, mayV]
  have e3 : (k == 3) = false := by simpa using h3
  by_cases h4 : k = 0
  · subst h4
    rw [E_go (X := X) _ b43 _ rfl rfl]; unfold b43; (repeat (first | rw [s_assoc] | rw [s_seq_reg (by simp [go_sem, mayV]; exact ⟨rfl, rfl⟩)] | rw [s_cnd (by simp [lk, keepEnv, Od.v, mayV]; exact rfl)] | rw [cnd_t] | rw [cnd_f] | rw [s_skip] | rw [s_ret] | rw [s_exit] | rw [C_ret] | rw [C_exit] | rw [C_skip] | rw [blk_ret] | rw [blk_norm] | rw [blk_exit] | rw [blk_exit' (by decide)] | rw [blkT_ret] | rw [blkT_norm] | rw [blkT_exit] | rw [blkT_exit' (by decide)] | rw [s_blk] | rw [s_reg (by simp [go_sem, mayV]; exact ⟨rfl, rfl⟩)] | rw [t_cnd (by simp [lk, keepEnv, Od.v, mayV]; exact rfl)] | rw [t_blk])); simp [ends_ret, ends_norm, resL, go_sem, fin, fz0, fz1, fzT, fzL, nlt, mayV]
    cases t <;> simp
  have e4 : (k == 0) = false := by simpa using h4
  rw [E_go (X := X) _ b43 _ rfl rfl]; unfold b43; (repeat (first | rw [s_assoc] | rw [s_seq_reg (by simp [go_sem, mayV, h1, h2, h3, h4, e1, e2, e3, e4]; exact ⟨rfl, rfl⟩)] | rw [s_cnd (by simp [lk, keepEnv, Od.v, mayV, h1, h2, h3, h4, e1, e2, e3, e4]; exact rfl)] | rw [cnd_t] | rw [cnd_f] | rw [s_skip] | rw [s_ret] | rw [s_exit] | rw [C_ret] | rw [C_exit] | rw [C_skip] | rw [blk_ret] | rw [blk_norm] | rw [blk_exit] | rw [blk_exit' (by decide)] | rw [blkT_ret] | rw [blkT_norm] | rw [blkT_exit] | rw [blkT_exit' (by decide)] | rw [s_blk] | rw [s_reg (by simp [go_sem, mayV, h1, h2, h3, h4, e1, e2, e3, e4]; exact ⟨rfl, rfl⟩)] | rw [t_cnd (by simp [lk, keepEnv, Od.v, mayV, h1, h2, h3, h4, e1, e2, e3, e4]; exact rfl)] | rw [t_blk])); simp [ends_ret, ends_norm, resL, go_sem, fin, fz0, fz1, fzT, fzL, nlt, mayV, h1, h2, h3, h4, e1, e2, e3, e4]
theorem run51_2 (n : Int) (s : ByteArray) (t : Bool) (h : Heap) : E X 51 [.agg [.int .i64 2, .int .i64 n, .str s, .bool t]] h = some (.bool (mayV ⟨2, n, s, t⟩), h) := by
  cases q0 : (n == 0) <;> cases q2 : t
  all_goals
    rw [E_go (X := X) _ b51 _ rfl rfl]; unfold b51; (repeat (first | rw [s_assoc] | rw [s_seq_reg (by simp [go_sem, mayV, q0, q2]; exact ⟨rfl, rfl⟩)] | rw [s_cnd (by simp [lk, keepEnv, Od.v, mayV, q0, q2]; exact rfl)] | rw [cnd_t] | rw [cnd_f] | rw [s_skip] | rw [s_ret] | rw [s_exit] | rw [C_ret] | rw [C_exit] | rw [C_skip] | rw [blk_ret] | rw [blk_norm] | rw [blk_exit] | rw [blk_exit' (by decide)] | rw [blkT_ret] | rw [blkT_norm] | rw [blkT_exit] | rw [blkT_exit' (by decide)] | rw [s_blk] | rw [s_reg (by simp [go_sem, mayV, q0, q2]; exact ⟨rfl, rfl⟩)] | rw [t_cnd (by simp [lk, keepEnv, Od.v, mayV, q0, q2]; exact rfl)] | rw [t_blk])); simp [ends_ret, ends_norm, resL, go_sem, fin, fz0, fz1, fzT, fzL, nlt, mayV, q0, q2]
  all_goals omega
theorem run51 (v : V) (h : Heap) : E X 51 [v.d] h = some (.bool (mayV v), h) := by
  obtain ⟨k, n, s, t⟩ := v
  by_cases h1 : k = 1
  · subst h1
    rw [E_go (X := X) _ b51 _ rfl rfl]; unfold b51; (repeat (first | rw [s_assoc] | rw [s_seq_reg (by simp [go_sem, mayV]; exact ⟨rfl, rfl⟩)] | rw [s_cnd (by simp [lk, keepEnv, Od.v, mayV]; exact rfl)] | rw [cnd_t] | rw [cnd_f] | rw [s_skip] | rw [s_ret] | rw [s_exit] | rw [C_ret] | rw [C_exit] | rw [C_skip] | rw [blk_ret] | rw [blk_norm] | rw [blk_exit] | rw [blk_exit' (by decide)] | rw [blkT_ret] | rw [blkT_norm] | rw [blkT_exit] | rw [blkT_exit' (by decide)] | rw [s_blk] | rw [s_reg (by simp [go_sem, mayV]; exact ⟨rfl, rfl⟩)] | rw [t_cnd (by simp [lk, keepEnv, Od.v, mayV]; exact rfl)] | rw [t_blk])); simp [ends_ret, ends_norm, resL, go_sem, fin, fz0, fz1, fzT, fzL, nlt, mayV]
  have e1 : (k == 1) = false := by simpa using h1
  by_cases h2 : k = 2
  · subst h2
    exact run51_2 n s t h
  have e2 : (k == 2) = false := by simpa using h2
  by_cases h3 : k = 3
  · subst h3
    rw [E_go (X := X) _ b51 _ rfl rfl]; unfold b51; (repeat (first | rw [s_assoc] | rw [s_seq_reg (by simp [go_sem, mayV]; exact ⟨rfl, rfl⟩)] | rw [s_cnd (by simp [lk, keepEnv, Od.v, mayV]; exact rfl)] | rw [cnd_t] | rw [cnd_f] | rw [s_skip] | rw [s_ret] | rw [s_exit] | rw [C_ret] | rw [C_exit] | rw [C_skip] | rw [blk_ret] | rw [blk_norm] | rw [blk_exit] | rw [blk_exit' (by decide)] | rw [blkT_ret] | rw [blkT_norm] | rw [blkT_exit] | rw [blkT_exit' (by decide)] | rw [s_blk] | rw [s_reg (by simp [go_sem, mayV]; exact ⟨rfl, rfl⟩)] | rw [t_cnd (by simp [lk, keepEnv, Od.v, mayV]; exact rfl)] | rw [t_blk])); simp [ends_ret, ends_norm, resL, go_sem, fin, fz0, fz1, fzT, fzL, nlt, mayV]
  have e3 : (k == 3) = false := by simpa using h3
  by_cases h4 : k = 0
  · subst h4
    rw [E_go (X := X) _ b51 _ rfl rfl]; unfold b51; (repeat (first | rw [s_assoc] | rw [s_seq_reg (by simp [go_sem, mayV]; exact ⟨rfl, rfl⟩)] | rw [s_cnd (by simp [lk, keepEnv, Od.v, mayV]; exact rfl)] | rw [cnd_t] | rw [cnd_f] | rw [s_skip] | rw [s_ret] | rw [s_exit] | rw [C_ret] | rw [C_exit] | rw [C_skip] | rw [blk_ret] | rw [blk_norm] | rw [blk_exit] | rw [blk_exit' (by decide)] | rw [blkT_ret] | rw [blkT_norm] | rw [blkT_exit] | rw [blkT_exit' (by decide)] | rw [s_blk] | rw [s_reg (by simp [go_sem, mayV]; exact ⟨rfl, rfl⟩)] | rw [t_cnd (by simp [lk, keepEnv, Od.v, mayV]; exact rfl)] | rw [t_blk])); simp [ends_ret, ends_norm, resL, go_sem, fin, fz0, fz1, fzT, fzL, nlt, mayV]
  have e4 : (k == 0) = false := by simpa using h4
  rw [E_go (X := X) _ b51 _ rfl rfl]; unfold b51; (repeat (first | rw [s_assoc] | rw [s_seq_reg (by simp [go_sem, mayV, h1, h2, h3, h4, e1, e2, e3, e4]; exact ⟨rfl, rfl⟩)] | rw [s_cnd (by simp [lk, keepEnv, Od.v, mayV, h1, h2, h3, h4, e1, e2, e3, e4]; exact rfl)] | rw [cnd_t] | rw [cnd_f] | rw [s_skip] | rw [s_ret] | rw [s_exit] | rw [C_ret] | rw [C_exit] | rw [C_skip] | rw [blk_ret] | rw [blk_norm] | rw [blk_exit] | rw [blk_exit' (by decide)] | rw [blkT_ret] | rw [blkT_norm] | rw [blkT_exit] | rw [blkT_exit' (by decide)] | rw [s_blk] | rw [s_reg (by simp [go_sem, mayV, h1, h2, h3, h4, e1, e2, e3, e4]; exact ⟨rfl, rfl⟩)] | rw [t_cnd (by simp [lk, keepEnv, Od.v, mayV, h1, h2, h3, h4, e1, e2, e3, e4]; exact rfl)] | rw [t_blk])); simp [ends_ret, ends_norm, resL, go_sem, fin, fz0, fz1, fzT, fzL, nlt, mayV, h1, h2, h3, h4, e1, e2, e3, e4]
end Go.Proofs.YtobpbjmnonbblaaDoor
