/- Ideal runs: are two lists of numbers the same? -/
import Derived.Test.YtobpbjmnonbblaaDoorPlainC
import Derived.Test.YtobpbjmnonbblaaDoorWrap
namespace Go.Proofs.YtobpbjmnonbblaaDoor
attribute [local go_sem] evOps evOp_n evOp_r evOp_d evOp_dr kpo_refl kpo_app cnd_some cnd_pair cnd_cnd_t cnd_cnd_f cnd_same cnd_dvb cnd_and cnd_or gd_bool gd_boolf gd_tup cnd_t cnd_f evTo isCall evx put lk Od.v keepEnv enterEnv ldx_ref rdc binx binI binS unx eqk DV.isU DV.cells hget hget0 hset hset0 stx_ref splice fillp mat eqcs eqs one_bool one_int one_str one_nilp one_ref one_elem one_nils one_list one_row one_nilm one_map one_nilf one_func one_nili one_ifc one_agg one_tup one_undef one_fresh
attribute [local go_sem ↓] evx_pick
set_option linter.unusedVariables false
set_option linter.unusedSimpArgs false
set_option maxRecDepth 10000
theorem loop12 {h : Heap} {A B : DV} {xs ys : List Int} (hA : vw h 1 A = some (xs.map (.int .i64))) (hB : vw h 1 B = some (ys.map (.int .i64))) (hl : xs.length = ys.length) (hb : xs.length ≤ 1000000) :
    ∀ (k i : Nat), xs.length - i ≤ k → i ≤ xs.length → (C X (.loop lp12_0) [(0, A), (1, B), (5, .int .i64 i)] h = some (.ret, [(4, .bool false)], h) ∧ xs.drop i ≠ ys.drop i) ∨ (∃ e', C X (.loop lp12_0) [(0, A), (1, B), (5, .int .i64 i)] h = some (.exit 0, e', h) ∧ xs.drop i = ys.drop i) := by
  intro k
  induction k with
  | zero =>
    intro i hk hi
    obtain rfl : i = xs.length := by omega
    right
    rw [t_loop]
    unfold lp12_0
    (repeat (first | rw [s_assoc] | rw [s_seq_reg (by simp [go_sem, hA]; exact ⟨rfl, rfl⟩)] | rw [s_cnd (by simp [lk, keepEnv, Od.v, hA]; exact rfl)] | rw [cnd_t] | rw [cnd_f] | rw [s_skip] | rw [s_ret] | rw [s_exit] | rw [C_ret] | rw [C_exit] | rw [C_skip] | rw [blk_ret] | rw [blk_norm] | rw [blk_exit] | rw [blk_exit' (by decide)] | rw [blkT_ret] | rw [blkT_norm] | rw [blkT_exit] | rw [blkT_exit' (by decide)] | rw [s_blk] | rw [s_reg (by simp [go_sem, hA]; exact ⟨rfl, rfl⟩)] | rw [t_cnd (by simp [lk, keepEnv, Od.v, hA]; exact rfl)] | rw [t_blk]))
    rw [lp_exit]
    exact ⟨_, rfl, by rw [List.drop_length, hl, List.drop_length]⟩
  | succ k ih =>
    intro i hk hi
    by_cases w0 : i < xs.length
    · have w0' : i < ys.length := by omega
      obtain ⟨I, hI⟩ : ∃ I, I = i + 1 := ⟨_, rfl⟩
      have w1 : IntKind.i64.wrap ((i : Int) + 1) = (I : Int) := by rw [wrap64 _ (by omega) (by omega)]; omega
      have d1 : xs.drop i = xs[i] :: xs.drop (i + 1) := List.drop_eq_getElem_cons w0
      have d2 : ys.drop i = ys[i] :: ys.drop (i + 1) := List.drop_eq_getElem_cons w0'
      by_cases he : xs[i] = ys[i]
      · have hs : C X lp12_0 [(0, A), (1, B), (5, .int .i64 i)] h = some (.norm, [(0, A), (1, B), (5, .int .i64 I)], h) := by
          unfold lp12_0
          have he' : (xs[i] != ys[i]) = false := by simpa using he
          (repeat (first | rw [s_assoc] | rw [s_seq_reg (by simp [go_sem, hA, hB, w0, w0', w1, ldx, he']; exact ⟨rfl, rfl⟩)] | rw [s_cnd (by simp [lk, keepEnv, Od.v, hA, hB, w0, w0', w1, ldx, he']; exact rfl)] | rw [cnd_t] | rw [cnd_f] | rw [s_skip] | rw [s_ret] | rw [s_exit] | rw [C_ret] | rw [C_exit] | rw [C_skip] | rw [blk_ret] | rw [blk_norm] | rw [blk_exit] | rw [blk_exit' (by decide)] | rw [blkT_ret] | rw [blkT_norm] | rw [blkT_exit] | rw [blkT_exit' (by decide)] | rw [s_blk] | rw [s_reg (by simp [go_sem, hA, hB, w0, w0', w1, ldx, he']; exact ⟨rfl, rfl⟩)] | rw [t_cnd (by simp [lk, keepEnv, Od.v, hA, hB, w0, w0', w1, ldx, he']; exact rfl)] | rw [t_blk]))
          simp [keepEnv, lk]
        rw [t_loop, hs, lp_norm]
        rcases ih I (by omega) (by omega) with ⟨c1, c2⟩ | ⟨e', c1, c2⟩
        · refine .inl ⟨c1, fun h => ?_⟩
          rw [d1, d2] at h
          injection h with _ h
          exact c2 (by rw [hI]; exact h)
        · exact .inr ⟨e', c1, by rw [d1, d2, he, ← hI, c2]⟩
      · left
        have he' : (xs[i] != ys[i]) = true := by simpa using he
        rw [t_loop]
        unfold lp12_0
        (repeat (first | rw [s_assoc] | rw [s_seq_reg (by simp [go_sem, hA, hB, w0, w0', w1, ldx, he']; exact ⟨rfl, rfl⟩)] | rw [s_cnd (by simp [lk, keepEnv, Od.v, hA, hB, w0, w0', w1, ldx, he']; exact rfl)] | rw [cnd_t] | rw [cnd_f] | rw [s_skip] | rw [s_ret] | rw [s_exit] | rw [C_ret] | rw [C_exit] | rw [C_skip] | rw [blk_ret] | rw [blk_norm] | rw [blk_exit] | rw [blk_exit' (by decide)] | rw [blkT_ret] | rw [blkT_norm] | rw [blkT_exit] | rw [blkT_exit' (by decide)] | rw [s_blk] | rw [s_reg (by simp [go_sem, hA, hB, w0, w0', w1, ldx, he']; exact ⟨rfl, rfl⟩)] | rw [t_cnd (by simp [lk, keepEnv, Od.v, hA, hB, w0, w0', w1, ldx, he']; exact rfl)] | rw [t_blk]))
        rw [lp_ret]
        exact ⟨by simp [keepEnv, lk], by intro h; rw [d1, d2] at h; injection h with h; exact he h⟩
    · exact ih i (by omega) hi
theorem run12 {h : Heap} {A B : DV} {xs ys : List Int} (hA : vw h 1 A = some (xs.map (.int .i64))) (hB : vw h 1 B = some (ys.map (.int .i64))) (hb : xs.length ≤ 1000000) : E X 12 [A, B] h = some (.bool (decide (xs = ys)), h) := by
  by_cases hl : xs.length = ys.length
  · have hl' : ((xs.length : Int) != ys.length) = false := by simp [hl]
    have hl2 : ((ys.length : Int) != ys.length) = false := by simp
    rw [E_go (X := X) _ b12 _ rfl rfl]; unfold b12
    (repeat (first | rw [s_assoc] | rw [s_seq_reg (by simp [go_sem, hA, hB, hl', hl2]; exact ⟨rfl, rfl⟩)] | rw [s_cnd (by simp [lk, keepEnv, Od.v, hA, hB, hl', hl2]; exact rfl)] | rw [cnd_t] | rw [cnd_f] | rw [s_skip] | rw [s_ret] | rw [s_exit] | rw [C_ret] | rw [C_exit] | rw [C_skip] | rw [blk_ret] | rw [blk_norm] | rw [blk_exit] | rw [blk_exit' (by decide)] | rw [blkT_ret] | rw [blkT_norm] | rw [blkT_exit] | rw [blkT_exit' (by decide)] | rw [s_blk] | rw [s_reg (by simp [go_sem, hA, hB, hl', hl2]; exact ⟨rfl, rfl⟩)] | rw [t_cnd (by simp [lk, keepEnv, Od.v, hA, hB, hl', hl2]; exact rfl)] | rw [t_blk]))
    rcases loop12 hA hB hl hb xs.length 0 (by omega) (by omega) with ⟨c1, c2⟩ | ⟨e', c1, c2⟩
    · rw [show ((0 : Nat) : Int) = 0 from rfl] at c1
      (try simp only [keepEnv, List.map_cons, List.map_nil, lk, reduceIte, Nat.reduceEqDiff, Nat.zero_ne_one, Nat.one_ne_zero])
      rw [c1]
      (repeat (first | rw [s_assoc] | rw [s_seq_reg (by simp [go_sem, hA, hB]; exact ⟨rfl, rfl⟩)] | rw [s_cnd (by simp [lk, keepEnv, Od.v, hA, hB]; exact rfl)] | rw [cnd_t] | rw [cnd_f] | rw [s_skip] | rw [s_ret] | rw [s_exit] | rw [C_ret] | rw [C_exit] | rw [C_skip] | rw [blk_ret] | rw [blk_norm] | rw [blk_exit] | rw [blk_exit' (by decide)] | rw [blkT_ret] | rw [blkT_norm] | rw [blkT_exit] | rw [blkT_exit' (by decide)] | rw [s_blk] | rw [s_reg (by simp [go_sem, hA, hB]; exact ⟨rfl, rfl⟩)] | rw [t_cnd (by simp [lk, keepEnv, Od.v, hA, hB]; exact rfl)] | rw [t_blk]))
      simp at c2
      simp [ends_ret, ends_norm, resL, go_sem, fin, fz0, fz1, fzT, fzL, nlt, c2]
    · rw [show ((0 : Nat) : Int) = 0 from rfl] at c1
      (try simp only [keepEnv, List.map_cons, List.map_nil, lk, reduceIte, Nat.reduceEqDiff, Nat.zero_ne_one, Nat.one_ne_zero])
      rw [c1]
      (repeat (first | rw [s_assoc] | rw [s_seq_reg (by simp [go_sem, hA, hB]; exact ⟨rfl, rfl⟩)] | rw [s_cnd (by simp [lk, keepEnv, Od.v, hA, hB]; exact rfl)] | rw [cnd_t] | rw [cnd_f] | rw [s_skip] | rw [s_ret] | rw [s_exit] | rw [C_ret] | rw [C_exit] | rw [C_skip] | rw [blk_ret] | rw [blk_norm] | rw [blk_exit] | rw [blk_exit' (by decide)] | rw [blkT_ret] | rw [blkT_norm] | rw [blkT_exit] | rw [blkT_exit' (by decide)] | rw [s_blk] | rw [s_reg (by simp [go_sem, hA, hB]; exact ⟨rfl, rfl⟩)] | rw [t_cnd (by simp [lk, keepEnv, Od.v, hA, hB]; exact rfl)] | rw [t_blk]))
      simp at c2
      simp [ends_ret, ends_norm, resL, go_sem, fin, fz0, fz1, fzT, fzL, nlt, c2]
  · have hl' : ((xs.length : Int) != ys.length) = true := by simp only [bne_iff_ne, ne_eq]; omega
    have hne : xs ≠ ys := fun h => hl (by rw [h])
    rw [E_go (X := X) _ b12 _ rfl rfl]; unfold b12; (repeat (first | rw [s_assoc] | rw [s_seq_reg (by simp [go_sem, hA, hB, hl', hne]; exact ⟨rfl, rfl⟩)] | rw [s_cnd (by simp [lk, keepEnv, Od.v, hA, hB, hl', hne]; exact rfl)] | rw [cnd_t] | rw [cnd_f] | rw [s_skip] | rw [s_ret] | rw [s_exit] | rw [C_ret] | rw [C_exit] | rw [C_skip] | rw [blk_ret] | rw [blk_norm] | rw [blk_exit] | rw [blk_exit' (by decide)] | rw [blkT_ret] | rw [blkT_norm] | rw [blkT_exit] | rw [blkT_exit' (by decide)] | rw [s_blk] | rw [s_reg (by simp [go_sem, hA, hB, hl', hne]; exact ⟨rfl, rfl⟩)] | rw [t_cnd (by simp [lk, keepEnv, Od.v, hA, hB, hl', hne]; exact rfl)] | rw [t_blk])); simp [ends_ret, ends_norm, resL, go_sem, fin, fz0, fz1, fzT, fzL, nlt, hA, hB, hl', hne]
end Go.Proofs.YtobpbjmnonbblaaDoor
