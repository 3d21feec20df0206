/- Ideal runs: the document's answer on queries (winnowerref16): names, Uses, Outs. -/
import Derived.Test.YtobpbjmnonbblaaDoorQryT
namespace Go.Proofs.YtobpbjmnonbblaaDoor
attribute [local go_sem] evOps evOp_n evOp_r evOp_d evOp_dr kpo_refl kpo_app cnd_some cnd_pair cnd_cnd_t cnd_cnd_f cnd_same cnd_dvb cnd_and cnd_or gd_bool gd_boolf gd_tup cnd_t cnd_f evTo isCall evx put lk Od.v keepEnv enterEnv ldx_ref rdc binx binI binS unx eqk DV.isU DV.cells hget hget0 hset hset0 stx_ref splice fillp mat eqcs eqs one_bool one_int one_str one_nilp one_ref one_elem one_nils one_list one_row one_nilm one_map one_nilf one_func one_nili one_ifc one_agg one_tup one_undef one_fresh
attribute [local go_sem ↓] evx_pick
set_option linter.unusedVariables false
set_option linter.unusedSimpArgs false
set_option maxRecDepth 10000
theorem fin_bool {H h : Heap} {r : Bool} (ht : h.take H.length = H) : fin H h [.bool r] = (.bool r, H) := by
  simp [fin, ht, fz1, fz0]
theorem loop34_0 {h : Heap} {F Cn Gr Ag So : DV} {xs : List N} {b : Nat} {l k : Int} (hb : h[b]? = some (.box 30 (qryC F Cn Gr Ag So l))) (hv : vw h 8 F = some (xs.map N.d)) (hl : xs.length ≤ 1000) :
    ∀ (m i : Nat), xs.length - i ≤ m → i ≤ xs.length → (∃ ex, C X (.loop lp34_0) [(1, .int .i64 k), (2, .ref b 0), (5, .int .i64 i)] h = some (.exit 0, (1, .int .i64 k) :: (2, .ref b 0) :: ex, h) ∧ (xs.drop i).any (fun x => (decide (1 ≤ x.ask) && decide (x.ask ≤ 7)) && x.col == k) = false) ∨ (C X (.loop lp34_0) [(1, .int .i64 k), (2, .ref b 0), (5, .int .i64 i)] h = some (.ret, [(4, .bool true)], h) ∧ (xs.drop i).any (fun x => (decide (1 ≤ x.ask) && decide (x.ask ≤ 7)) && x.col == k) = true) := by
  intro m
  induction m with
  | zero =>
    intro i hk hi
    obtain rfl : i = xs.length := by omega
    refine .inl ⟨[(5, .int .i64 xs.length), (13, .bool false)], ?_, by simp⟩
    simp only [qryC] at *
    rw [t_loop]
    unfold lp34_0
    (repeat (first | rw [s_assoc] | rw [s_seq_reg (by simp [go_sem, hv, hb, ldx]; exact ⟨rfl, rfl⟩)] | rw [s_cnd (by simp [lk, keepEnv, Od.v, hv, hb, ldx]; exact rfl)] | rw [cnd_t] | rw [cnd_f] | rw [s_skip] | rw [s_ret] | rw [s_exit] | rw [C_ret] | rw [C_exit] | rw [C_skip] | rw [blk_ret] | rw [blk_norm] | rw [blk_exit] | rw [blk_exit' (by decide)] | rw [blkT_ret] | rw [blkT_norm] | rw [blkT_exit] | rw [blkT_exit' (by decide)] | rw [s_blk] | rw [s_reg (by simp [go_sem, hv, hb, ldx]; exact ⟨rfl, rfl⟩)] | rw [t_cnd (by simp [lk, keepEnv, Od.v, hv, hb, ldx]; exact rfl)] | rw [t_blk]))
    rw [lp_exit]
    simp [keepEnv, lk]
  | succ m ih =>
    intro i hk hi
    by_cases c : i < xs.length
    · obtain ⟨I, hI⟩ : ∃ I, I = i + 1 := ⟨_, rfl⟩
      have z1 : IntKind.i64.wrap ((i : Int) + 1) = (I : Int) := (by rw [wrap64 _ (by omega) (by omega)]; omega)
      obtain ⟨x, hx⟩ : ∃ x, x = xs[i] := ⟨_, rfl⟩
      have hxi : xs[i]? = some x := by rw [hx]; exact List.getElem?_eq_getElem c
      have hx' := hx.symm
      have hd : xs.drop i = x :: xs.drop I := by rw [List.drop_eq_getElem_cons c, ← hx, hI]
      rw [hd, List.any_cons]
      have hIH := ih I (by omega) (by omega)
      by_cases q1 : 1 ≤ x.ask
      · by_cases q2 : x.ask ≤ 7
        · by_cases q3 : x.col = k
          · have q4 : (x.col == k) = true := by simpa using q3
            have hs : C X lp34_0 [(1, .int .i64 k), (2, .ref b 0), (5, .int .i64 i)] h = some (.ret, [(4, .bool true)], h) := by
              clear ih hIH hx hd hI
              obtain ⟨ask, col, ⟨vk, vn, vs', vt⟩, xa, xb⟩ := x
              simp only [N.d, V.d, qryC] at *
              unfold lp34_0
              (repeat (first | rw [s_assoc] | rw [s_seq_reg (by simp [go_sem, c, z1, hv, hx', hxi, hb, q1, q2, q4, ldx]; exact ⟨rfl, rfl⟩)] | rw [s_cnd (by simp [lk, keepEnv, Od.v, c, z1, hv, hx', hxi, hb, q1, q2, q4, ldx]; exact rfl)] | rw [cnd_t] | rw [cnd_f] | rw [s_skip] | rw [s_ret] | rw [s_exit] | rw [C_ret] | rw [C_exit] | rw [C_skip] | rw [blk_ret] | rw [blk_norm] | rw [blk_exit] | rw [blk_exit' (by decide)] | rw [blkT_ret] | rw [blkT_norm] | rw [blkT_exit] | rw [blkT_exit' (by decide)] | rw [s_blk] | rw [s_reg (by simp [go_sem, c, z1, hv, hx', hxi, hb, q1, q2, q4, ldx]; exact ⟨rfl, rfl⟩)] | rw [t_cnd (by simp [lk, keepEnv, Od.v, c, z1, hv, hx', hxi, hb, q1, q2, q4, ldx]; exact rfl)] | rw [t_blk]))
              simp [keepEnv, lk]
            right
            rw [t_loop, hs, lp_ret]
            exact ⟨rfl, by simp [q1, q2, q4]⟩
          · have q4 : (x.col == k) = false := by simpa using q3
            have hs : C X lp34_0 [(1, .int .i64 k), (2, .ref b 0), (5, .int .i64 i)] h = some (.norm, [(1, .int .i64 k), (2, .ref b 0), (5, .int .i64 I)], h) := by
              clear ih hIH hx hd hI
              obtain ⟨ask, col, ⟨vk, vn, vs', vt⟩, xa, xb⟩ := x
              simp only [N.d, V.d, qryC] at *
              unfold lp34_0
              (repeat (first | rw [s_assoc] | rw [s_seq_reg (by simp [go_sem, c, z1, hv, hx', hxi, hb, q1, q2, q4, ldx]; exact ⟨rfl, rfl⟩)] | rw [s_cnd (by simp [lk, keepEnv, Od.v, c, z1, hv, hx', hxi, hb, q1, q2, q4, ldx]; exact rfl)] | rw [cnd_t] | rw [cnd_f] | rw [s_skip] | rw [s_ret] | rw [s_exit] | rw [C_ret] | rw [C_exit] | rw [C_skip] | rw [blk_ret] | rw [blk_norm] | rw [blk_exit] | rw [blk_exit' (by decide)] | rw [blkT_ret] | rw [blkT_norm] | rw [blkT_exit] | rw [blkT_exit' (by decide)] | rw [s_blk] | rw [s_reg (by simp [go_sem, c, z1, hv, hx', hxi, hb, q1, q2, q4, ldx]; exact ⟨rfl, rfl⟩)] | rw [t_cnd (by simp [lk, keepEnv, Od.v, c, z1, hv, hx', hxi, hb, q1, q2, q4, ldx]; exact rfl)] | rw [t_blk]))
              simp [keepEnv, lk]
            rw [t_loop, hs, lp_norm]
            simp only [q1, q2, q4, decide_false, decide_true, Bool.false_or, Bool.and_false, Bool.false_and, Bool.and_true, Bool.true_and]
            exact hIH
        · have hs : C X lp34_0 [(1, .int .i64 k), (2, .ref b 0), (5, .int .i64 i)] h = some (.norm, [(1, .int .i64 k), (2, .ref b 0), (5, .int .i64 I)], h) := by
            clear ih hIH hx hd hI
            obtain ⟨ask, col, ⟨vk, vn, vs', vt⟩, xa, xb⟩ := x
            simp only [N.d, V.d, qryC] at *
            unfold lp34_0
            (repeat (first | rw [s_assoc] | rw [s_seq_reg (by simp [go_sem, c, z1, hv, hx', hxi, hb, q1, q2, ldx]; exact ⟨rfl, rfl⟩)] | rw [s_cnd (by simp [lk, keepEnv, Od.v, c, z1, hv, hx', hxi, hb, q1, q2, ldx]; exact rfl)] | rw [cnd_t] | rw [cnd_f] | rw [s_skip] | rw [s_ret] | rw [s_exit] | rw [C_ret] | rw [C_exit] | rw [C_skip] | rw [blk_ret] | rw [blk_norm] | rw [blk_exit] | rw [blk_exit' (by decide)] | rw [blkT_ret] | rw [blkT_norm] | rw [blkT_exit] | rw [blkT_exit' (by decide)] | rw [s_blk] | rw [s_reg (by simp [go_sem, c, z1, hv, hx', hxi, hb, q1, q2, ldx]; exact ⟨rfl, rfl⟩)] | rw [t_cnd (by simp [lk, keepEnv, Od.v, c, z1, hv, hx', hxi, hb, q1, q2, ldx]; exact rfl)] | rw [t_blk]))
            simp [keepEnv, lk]
          rw [t_loop, hs, lp_norm]
          simp only [q1, q2, decide_false, decide_true, Bool.false_or, Bool.and_false, Bool.false_and, Bool.and_true, Bool.true_and]
          exact hIH
      · have hs : C X lp34_0 [(1, .int .i64 k), (2, .ref b 0), (5, .int .i64 i)] h = some (.norm, [(1, .int .i64 k), (2, .ref b 0), (5, .int .i64 I)], h) := by
          clear ih hIH hx hd hI
          obtain ⟨ask, col, ⟨vk, vn, vs', vt⟩, xa, xb⟩ := x
          simp only [N.d, V.d, qryC] at *
          unfold lp34_0
          (repeat (first | rw [s_assoc] | rw [s_seq_reg (by simp [go_sem, c, z1, hv, hx', hxi, hb, q1, ldx]; exact ⟨rfl, rfl⟩)] | rw [s_cnd (by simp [lk, keepEnv, Od.v, c, z1, hv, hx', hxi, hb, q1, ldx]; exact rfl)] | rw [cnd_t] | rw [cnd_f] | rw [s_skip] | rw [s_ret] | rw [s_exit] | rw [C_ret] | rw [C_exit] | rw [C_skip] | rw [blk_ret] | rw [blk_norm] | rw [blk_exit] | rw [blk_exit' (by decide)] | rw [blkT_ret] | rw [blkT_norm] | rw [blkT_exit] | rw [blkT_exit' (by decide)] | rw [s_blk] | rw [s_reg (by simp [go_sem, c, z1, hv, hx', hxi, hb, q1, ldx]; exact ⟨rfl, rfl⟩)] | rw [t_cnd (by simp [lk, keepEnv, Od.v, c, z1, hv, hx', hxi, hb, q1, ldx]; exact rfl)] | rw [t_blk]))
          simp [keepEnv, lk]
        rw [t_loop, hs, lp_norm]
        simp only [q1, decide_false, decide_true, Bool.false_or, Bool.and_false, Bool.false_and, Bool.and_true, Bool.true_and]
        exact hIH
    · exact ih i (by omega) hi
theorem loop34_1 {h : Heap} {F Cn Gr Ag So : DV} {xs : List Int} {b : Nat} {l k : Int} (hb : h[b]? = some (.box 30 (qryC F Cn Gr Ag So l))) (hv : vw h 1 Cn = some (xs.map intD)) (hl : xs.length ≤ 1000) :
    ∀ (m i : Nat), xs.length - i ≤ m → i ≤ xs.length → (∃ ex, C X (.loop lp34_1) [(1, .int .i64 k), (2, .ref b 0), (6, .int .i64 i)] h = some (.exit 2, (1, .int .i64 k) :: (2, .ref b 0) :: ex, h) ∧ (xs.drop i).any (fun x => x == k) = false) ∨ (C X (.loop lp34_1) [(1, .int .i64 k), (2, .ref b 0), (6, .int .i64 i)] h = some (.ret, [(4, .bool true)], h) ∧ (xs.drop i).any (fun x => x == k) = true) := by
  intro m
  induction m with
  | zero =>
    intro i hk hi
    obtain rfl : i = xs.length := by omega
    refine .inl ⟨[(6, .int .i64 xs.length), (46, .bool false)], ?_, by simp⟩
    simp only [qryC] at *
    rw [t_loop]
    unfold lp34_1
    (repeat (first | rw [s_assoc] | rw [s_seq_reg (by simp [go_sem, hv, hb, ldx]; exact ⟨rfl, rfl⟩)] | rw [s_cnd (by simp [lk, keepEnv, Od.v, hv, hb, ldx]; exact rfl)] | rw [cnd_t] | rw [cnd_f] | rw [s_skip] | rw [s_ret] | rw [s_exit] | rw [C_ret] | rw [C_exit] | rw [C_skip] | rw [blk_ret] | rw [blk_norm] | rw [blk_exit] | rw [blk_exit' (by decide)] | rw [blkT_ret] | rw [blkT_norm] | rw [blkT_exit] | rw [blkT_exit' (by decide)] | rw [s_blk] | rw [s_reg (by simp [go_sem, hv, hb, ldx]; exact ⟨rfl, rfl⟩)] | rw [t_cnd (by simp [lk, keepEnv, Od.v, hv, hb, ldx]; exact rfl)] | rw [t_blk]))
    rw [lp_exit]
    simp [keepEnv, lk]
  | succ m ih =>
    intro i hk hi
    by_cases c : i < xs.length
    · obtain ⟨I, hI⟩ : ∃ I, I = i + 1 := ⟨_, rfl⟩
      have z1 : IntKind.i64.wrap ((i : Int) + 1) = (I : Int) := (by rw [wrap64 _ (by omega) (by omega)]; omega)
      obtain ⟨x, hx⟩ : ∃ x, x = xs[i] := ⟨_, rfl⟩
      have hxi : xs[i]? = some x := by rw [hx]; exact List.getElem?_eq_getElem c
      have hx' := hx.symm
      have hd : xs.drop i = x :: xs.drop I := by rw [List.drop_eq_getElem_cons c, ← hx, hI]
      rw [hd, List.any_cons]
      have hIH := ih I (by omega) (by omega)
      by_cases q3 : x = k
      · have q4 : (x == k) = true := by simpa using q3
        have hs : C X lp34_1 [(1, .int .i64 k), (2, .ref b 0), (6, .int .i64 i)] h = some (.ret, [(4, .bool true)], h) := by
          clear ih hIH hx hd hI
          simp only [intD, qryC] at *
          unfold lp34_1
          (repeat (first | rw [s_assoc] | rw [s_seq_reg (by simp [go_sem, c, z1, hv, hx', hxi, hb, q4, ldx]; exact ⟨rfl, rfl⟩)] | rw [s_cnd (by simp [lk, keepEnv, Od.v, c, z1, hv, hx', hxi, hb, q4, ldx]; exact rfl)] | rw [cnd_t] | rw [cnd_f] | rw [s_skip] | rw [s_ret] | rw [s_exit] | rw [C_ret] | rw [C_exit] | rw [C_skip] | rw [blk_ret] | rw [blk_norm] | rw [blk_exit] | rw [blk_exit' (by decide)] | rw [blkT_ret] | rw [blkT_norm] | rw [blkT_exit] | rw [blkT_exit' (by decide)] | rw [s_blk] | rw [s_reg (by simp [go_sem, c, z1, hv, hx', hxi, hb, q4, ldx]; exact ⟨rfl, rfl⟩)] | rw [t_cnd (by simp [lk, keepEnv, Od.v, c, z1, hv, hx', hxi, hb, q4, ldx]; exact rfl)] | rw [t_blk]))
          simp [keepEnv, lk]
        right
        rw [t_loop, hs, lp_ret]
        exact ⟨rfl, by simp [q4]⟩
      · have q4 : (x == k) = false := by simpa using q3
        have hs : C X lp34_1 [(1, .int .i64 k), (2, .ref b 0), (6, .int .i64 i)] h = some (.norm, [(1, .int .i64 k), (2, .ref b 0), (6, .int .i64 I)], h) := by
          clear ih hIH hx hd hI
          simp only [intD, qryC] at *
          unfold lp34_1
          (repeat (first | rw [s_assoc] | rw [s_seq_reg (by simp [go_sem, c, z1, hv, hx', hxi, hb, q4, ldx]; exact ⟨rfl, rfl⟩)] | rw [s_cnd (by simp [lk, keepEnv, Od.v, c, z1, hv, hx', hxi, hb, q4, ldx]; exact rfl)] | rw [cnd_t] | rw [cnd_f] | rw [s_skip] | rw [s_ret] | rw [s_exit] | rw [C_ret] | rw [C_exit] | rw [C_skip] | rw [blk_ret] | rw [blk_norm] | rw [blk_exit] | rw [blk_exit' (by decide)] | rw [blkT_ret] | rw [blkT_norm] | rw [blkT_exit] | rw [blkT_exit' (by decide)] | rw [s_blk] | rw [s_reg (by simp [go_sem, c, z1, hv, hx', hxi, hb, q4, ldx]; exact ⟨rfl, rfl⟩)] | rw [t_cnd (by simp [lk, keepEnv, Od.v, c, z1, hv, hx', hxi, hb, q4, ldx]; exact rfl)] | rw [t_blk]))
          simp [keepEnv, lk]
        rw [t_loop, hs, lp_norm]
        simp only [q4, decide_false, decide_true, Bool.false_or, Bool.and_false, Bool.false_and, Bool.and_true, Bool.true_and]
        exact hIH
    · exact ih i (by omega) hi
theorem loop34_2 {h : Heap} {F Cn Gr Ag So : DV} {xs : List Int} {b : Nat} {l k : Int} (hb : h[b]? = some (.box 30 (qryC F Cn Gr Ag So l))) (hv : vw h 1 Gr = some (xs.map intD)) (hl : xs.length ≤ 1000) :
    ∀ (m i : Nat), xs.length - i ≤ m → i ≤ xs.length → (∃ ex, C X (.loop lp34_2) [(1, .int .i64 k), (2, .ref b 0), (7, .int .i64 i)] h = some (.exit 4, (1, .int .i64 k) :: (2, .ref b 0) :: ex, h) ∧ (xs.drop i).any (fun x => x == k) = false) ∨ (C X (.loop lp34_2) [(1, .int .i64 k), (2, .ref b 0), (7, .int .i64 i)] h = some (.ret, [(4, .bool true)], h) ∧ (xs.drop i).any (fun x => x == k) = true) := by
  intro m
  induction m with
  | zero =>
    intro i hk hi
    obtain rfl : i = xs.length := by omega
    refine .inl ⟨[(7, .int .i64 xs.length), (60, .bool false)], ?_, by simp⟩
    simp only [qryC] at *
    rw [t_loop]
    unfold lp34_2
    (repeat (first | rw [s_assoc] | rw [s_seq_reg (by simp [go_sem, hv, hb, ldx]; exact ⟨rfl, rfl⟩)] | rw [s_cnd (by simp [lk, keepEnv, Od.v, hv, hb, ldx]; exact rfl)] | rw [cnd_t] | rw [cnd_f] | rw [s_skip] | rw [s_ret] | rw [s_exit] | rw [C_ret] | rw [C_exit] | rw [C_skip] | rw [blk_ret] | rw [blk_norm] | rw [blk_exit] | rw [blk_exit' (by decide)] | rw [blkT_ret] | rw [blkT_norm] | rw [blkT_exit] | rw [blkT_exit' (by decide)] | rw [s_blk] | rw [s_reg (by simp [go_sem, hv, hb, ldx]; exact ⟨rfl, rfl⟩)] | rw [t_cnd (by simp [lk, keepEnv, Od.v, hv, hb, ldx]; exact rfl)] | rw [t_blk]))
    rw [lp_exit]
    simp [keepEnv, lk]
  | succ m ih =>
    intro i hk hi
    by_cases c : i < xs.length
    · obtain ⟨I, hI⟩ : ∃ I, I = i + 1 := ⟨_, rfl⟩
      have z1 : IntKind.i64.wrap ((i : Int) + 1) = (I : Int) := (by rw [wrap64 _ (by omega) (by omega)]; omega)
      obtain ⟨x, hx⟩ : ∃ x, x = xs[i] := ⟨_, rfl⟩
      have hxi : xs[i]? = some x := by rw [hx]; exact List.getElem?_eq_getElem c
      have hx' := hx.symm
      have hd : xs.drop i = x :: xs.drop I := by rw [List.drop_eq_getElem_cons c, ← hx, hI]
      rw [hd, List.any_cons]
      have hIH := ih I (by omega) (by omega)
      by_cases q3 : x = k
      · have q4 : (x == k) = true := by simpa using q3
        have hs : C X lp34_2 [(1, .int .i64 k), (2, .ref b 0), (7, .int .i64 i)] h = some (.ret, [(4, .bool true)], h) := by
          clear ih hIH hx hd hI
          simp only [intD, qryC] at *
          unfold lp34_2
          (repeat (first | rw [s_assoc] | rw [s_seq_reg (by simp [go_sem, c, z1, hv, hx', hxi, hb, q4, ldx]; exact ⟨rfl, rfl⟩)] | rw [s_cnd (by simp [lk, keepEnv, Od.v, c, z1, hv, hx', hxi, hb, q4, ldx]; exact rfl)] | rw [cnd_t] | rw [cnd_f] | rw [s_skip] | rw [s_ret] | rw [s_exit] | rw [C_ret] | rw [C_exit] | rw [C_skip] | rw [blk_ret] | rw [blk_norm] | rw [blk_exit] | rw [blk_exit' (by decide)] | rw [blkT_ret] | rw [blkT_norm] | rw [blkT_exit] | rw [blkT_exit' (by decide)] | rw [s_blk] | rw [s_reg (by simp [go_sem, c, z1, hv, hx', hxi, hb, q4, ldx]; exact ⟨rfl, rfl⟩)] | rw [t_cnd (by simp [lk, keepEnv, Od.v, c, z1, hv, hx', hxi, hb, q4, ldx]; exact rfl)] | rw [t_blk]))
          simp [keepEnv, lk]
        right
        rw [t_loop, hs, lp_ret]
        exact ⟨rfl, by simp [q4]⟩
      · have q4 : (x == k) = false := by simpa using q3
        have hs : C X lp34_2 [(1, .int .i64 k), (2, .ref b 0), (7, .int .i64 i)] h = some (.norm, [(1, .int .i64 k), (2, .ref b 0), (7, .int .i64 I)], h) := by
          clear ih hIH hx hd hI
          simp only [intD, qryC] at *
          unfold lp34_2
          (repeat (first | rw [s_assoc] | rw [s_seq_reg (by simp [go_sem, c, z1, hv, hx', hxi, hb, q4, ldx]; exact ⟨rfl, rfl⟩)] | rw [s_cnd (by simp [lk, keepEnv, Od.v, c, z1, hv, hx', hxi, hb, q4, ldx]; exact rfl)] | rw [cnd_t] | rw [cnd_f] | rw [s_skip] | rw [s_ret] | rw [s_exit] | rw [C_ret] | rw [C_exit] | rw [C_skip] | rw [blk_ret] | rw [blk_norm] | rw [blk_exit] | rw [blk_exit' (by decide)] | rw [blkT_ret] | rw [blkT_norm] | rw [blkT_exit] | rw [blkT_exit' (by decide)] | rw [s_blk] | rw [s_reg (by simp [go_sem, c, z1, hv, hx', hxi, hb, q4, ldx]; exact ⟨rfl, rfl⟩)] | rw [t_cnd (by simp [lk, keepEnv, Od.v, c, z1, hv, hx', hxi, hb, q4, ldx]; exact rfl)] | rw [t_blk]))
          simp [keepEnv, lk]
        rw [t_loop, hs, lp_norm]
        simp only [q4, decide_false, decide_true, Bool.false_or, Bool.and_false, Bool.false_and, Bool.and_true, Bool.true_and]
        exact hIH
    · exact ih i (by omega) hi
theorem loop34_3 {h : Heap} {F Cn Gr Ag So : DV} {xs : List (Int × Int)} {b : Nat} {l k : Int} (hb : h[b]? = some (.box 30 (qryC F Cn Gr Ag So l))) (hv : vw h 2 Ag = some (xs.map agD)) (hl : xs.length ≤ 1000) :
    ∀ (m i : Nat), xs.length - i ≤ m → i ≤ xs.length → (∃ ex, C X (.loop lp34_3) [(1, .int .i64 k), (2, .ref b 0), (8, .int .i64 i)] h = some (.exit 6, (1, .int .i64 k) :: (2, .ref b 0) :: ex, h) ∧ (xs.drop i).any (fun x => x.2 == k) = false) ∨ (C X (.loop lp34_3) [(1, .int .i64 k), (2, .ref b 0), (8, .int .i64 i)] h = some (.ret, [(4, .bool true)], h) ∧ (xs.drop i).any (fun x => x.2 == k) = true) := by
  intro m
  induction m with
  | zero =>
    intro i hk hi
    obtain rfl : i = xs.length := by omega
    refine .inl ⟨[(8, .int .i64 xs.length), (74, .bool false)], ?_, by simp⟩
    simp only [qryC] at *
    rw [t_loop]
    unfold lp34_3
    (repeat (first | rw [s_assoc] | rw [s_seq_reg (by simp [go_sem, hv, hb, ldx]; exact ⟨rfl, rfl⟩)] | rw [s_cnd (by simp [lk, keepEnv, Od.v, hv, hb, ldx]; exact rfl)] | rw [cnd_t] | rw [cnd_f] | rw [s_skip] | rw [s_ret] | rw [s_exit] | rw [C_ret] | rw [C_exit] | rw [C_skip] | rw [blk_ret] | rw [blk_norm] | rw [blk_exit] | rw [blk_exit' (by decide)] | rw [blkT_ret] | rw [blkT_norm] | rw [blkT_exit] | rw [blkT_exit' (by decide)] | rw [s_blk] | rw [s_reg (by simp [go_sem, hv, hb, ldx]; exact ⟨rfl, rfl⟩)] | rw [t_cnd (by simp [lk, keepEnv, Od.v, hv, hb, ldx]; exact rfl)] | rw [t_blk]))
    rw [lp_exit]
    simp [keepEnv, lk]
  | succ m ih =>
    intro i hk hi
    by_cases c : i < xs.length
    · obtain ⟨I, hI⟩ : ∃ I, I = i + 1 := ⟨_, rfl⟩
      have z1 : IntKind.i64.wrap ((i : Int) + 1) = (I : Int) := (by rw [wrap64 _ (by omega) (by omega)]; omega)
      obtain ⟨x, hx⟩ : ∃ x, x = xs[i] := ⟨_, rfl⟩
      have hxi : xs[i]? = some x := by rw [hx]; exact List.getElem?_eq_getElem c
      have hx' := hx.symm
      have hd : xs.drop i = x :: xs.drop I := by rw [List.drop_eq_getElem_cons c, ← hx, hI]
      rw [hd, List.any_cons]
      have hIH := ih I (by omega) (by omega)
      by_cases q3 : x.2 = k
      · have q4 : (x.2 == k) = true := by simpa using q3
        have hs : C X lp34_3 [(1, .int .i64 k), (2, .ref b 0), (8, .int .i64 i)] h = some (.ret, [(4, .bool true)], h) := by
          clear ih hIH hx hd hI
          obtain ⟨x1, x2⟩ := x
          simp only [agD, qryC] at *
          unfold lp34_3
          (repeat (first | rw [s_assoc] | rw [s_seq_reg (by simp [go_sem, c, z1, hv, hx', hxi, hb, q4, ldx]; exact ⟨rfl, rfl⟩)] | rw [s_cnd (by simp [lk, keepEnv, Od.v, c, z1, hv, hx', hxi, hb, q4, ldx]; exact rfl)] | rw [cnd_t] | rw [cnd_f] | rw [s_skip] | rw [s_ret] | rw [s_exit] | rw [C_ret] | rw [C_exit] | rw [C_skip] | rw [blk_ret] | rw [blk_norm] | rw [blk_exit] | rw [blk_exit' (by decide)] | rw [blkT_ret] | rw [blkT_norm] | rw [blkT_exit] | rw [blkT_exit' (by decide)] | rw [s_blk] | rw [s_reg (by simp [go_sem, c, z1, hv, hx', hxi, hb, q4, ldx]; exact ⟨rfl, rfl⟩)] | rw [t_cnd (by simp [lk, keepEnv, Od.v, c, z1, hv, hx', hxi, hb, q4, ldx]; exact rfl)] | rw [t_blk]))
          simp [keepEnv, lk]
        right
        rw [t_loop, hs, lp_ret]
        exact ⟨rfl, by simp [q4]⟩
      · have q4 : (x.2 == k) = false := by simpa using q3
        have hs : C X lp34_3 [(1, .int .i64 k), (2, .ref b 0), (8, .int .i64 i)] h = some (.norm, [(1, .int .i64 k), (2, .ref b 0), (8, .int .i64 I)], h) := by
          clear ih hIH hx hd hI
          obtain ⟨x1, x2⟩ := x
          simp only [agD, qryC] at *
          unfold lp34_3
          (repeat (first | rw [s_assoc] | rw [s_seq_reg (by simp [go_sem, c, z1, hv, hx', hxi, hb, q4, ldx]; exact ⟨rfl, rfl⟩)] | rw [s_cnd (by simp [lk, keepEnv, Od.v, c, z1, hv, hx', hxi, hb, q4, ldx]; exact rfl)] | rw [cnd_t] | rw [cnd_f] | rw [s_skip] | rw [s_ret] | rw [s_exit] | rw [C_ret] | rw [C_exit] | rw [C_skip] | rw [blk_ret] | rw [blk_norm] | rw [blk_exit] | rw [blk_exit' (by decide)] | rw [blkT_ret] | rw [blkT_norm] | rw [blkT_exit] | rw [blkT_exit' (by decide)] | rw [s_blk] | rw [s_reg (by simp [go_sem, c, z1, hv, hx', hxi, hb, q4, ldx]; exact ⟨rfl, rfl⟩)] | rw [t_cnd (by simp [lk, keepEnv, Od.v, c, z1, hv, hx', hxi, hb, q4, ldx]; exact rfl)] | rw [t_blk]))
          simp [keepEnv, lk]
        rw [t_loop, hs, lp_norm]
        simp only [q4, decide_false, decide_true, Bool.false_or, Bool.and_false, Bool.false_and, Bool.and_true, Bool.true_and]
        exact hIH
    · exact ih i (by omega) hi
def namesV (q : Qry) (k : Int) : Bool := ((q.filter.any fun x => (decide (1 ≤ x.ask) && decide (x.ask ≤ 7)) && x.col == k) || (q.cols.any fun x => x == k)) || ((q.group.any fun x => x == k) || (q.aggs.any fun x => x.2 == k))
set_option maxHeartbeats 1000000 in
theorem run34 {H : Heap} {F Cn Gr Ag So : DV} {q : Qry} (hq : QV H F Cn Gr Ag So q) (k : Int) : E X 34 [.agg (qryC F Cn Gr Ag So q.lim), .int .i64 k] H = some (.bool (namesV q k), H) := by
  obtain ⟨H1, hH1⟩ : ∃ H1, H1 = H ++ [HO.box 30 (qryC F Cn Gr Ag So q.lim)] := ⟨_, rfl⟩
  have hq1 : QV H1 F Cn Gr Ag So q := by rw [hH1]; exact hq.ext _
  have hb1 : H1[H.length]? = some (.box 30 (qryC F Cn Gr Ag So q.lim)) := by rw [hH1]; simp
  have ht1 : H1.take H.length = H := by rw [hH1, List.take_append_of_le_length (Nat.le_refl _)]; exact List.take_length
  have hf1 : ∀ r, fin H H1 [.bool r] = (.bool r, H) := fun r => fin_bool ht1
  have v1 : vw H1 8 F = some (q.filter.map N.d) := by have := hq1.f []; rwa [List.append_nil] at this
  have hf := hq.nf
  have hc := hq.nc
  have hg := hq.ng
  have ha := hq.na
  have l0 := loop34_0 (k := k) hb1 v1 hf q.filter.length 0 (by omega) (by omega)
  have l1 := loop34_1 (k := k) hb1 (hq.c.vw H1) hc q.cols.length 0 (by omega) (by omega)
  have l2 := loop34_2 (k := k) hb1 (hq.g.vw H1) hg q.group.length 0 (by omega) (by omega)
  have l3 := loop34_3 (k := k) hb1 (hq.a H1) ha q.aggs.length 0 (by omega) (by omega)
  rw [List.drop_zero, show ((0 : Nat) : Int) = 0 from rfl] at l0 l1 l2 l3
  unfold namesV
  generalize (q.filter.any fun x => (decide (1 ≤ x.ask) && decide (x.ask ≤ 7)) && x.col == k) = p0 at *
  generalize (q.cols.any fun x => x == k) = p1 at *
  generalize (q.group.any fun x => x == k) = p2 at *
  generalize (q.aggs.any fun x => x.2 == k) = p3 at *
  clear hq hq1 hb1 ht1
  obtain ⟨fl, co, gr, ag, so, lim⟩ := q
  subst hH1
  simp only [qryC] at *
  rw [E_go (X := X) _ b34 _ rfl rfl]; unfold b34
  rcases l0 with ⟨x0, l0, rfl⟩ | ⟨l0, rfl⟩
  · rcases l1 with ⟨x1, l1, rfl⟩ | ⟨l1, rfl⟩
    · rcases l2 with ⟨x2, l2, rfl⟩ | ⟨l2, rfl⟩
      · rcases l3 with ⟨x3, l3, rfl⟩ | ⟨l3, rfl⟩
        · (repeat (first | rw [s_assoc] | rw [s_seq_reg (by simp [go_sem]; exact ⟨rfl, rfl⟩)] | rw [s_cnd (by simp [lk, keepEnv, Od.v]; exact rfl)] | rw [cnd_t] | rw [cnd_f] | rw [s_skip] | rw [s_ret] | rw [s_exit] | rw [C_ret] | rw [C_exit] | rw [C_skip] | rw [blk_ret] | rw [blk_norm] | rw [blk_exit] | rw [blk_exit' (by decide)] | rw [blkT_ret] | rw [blkT_norm] | rw [blkT_exit] | rw [blkT_exit' (by decide)] | rw [s_blk] | rw [s_reg (by simp [go_sem]; exact ⟨rfl, rfl⟩)] | rw [t_cnd (by simp [lk, keepEnv, Od.v]; exact rfl)] | rw [t_blk]))
          (try simp only [keepEnv, List.map_cons, List.map_nil, lk, reduceIte, Nat.reduceEqDiff, Nat.zero_ne_one, Nat.one_ne_zero])
          rw [l0]
          (repeat (first | rw [s_assoc] | rw [s_seq_reg (by simp [go_sem]; exact ⟨rfl, rfl⟩)] | rw [s_cnd (by simp [lk, keepEnv, Od.v]; exact rfl)] | rw [cnd_t] | rw [cnd_f] | rw [s_skip] | rw [s_ret] | rw [s_exit] | rw [C_ret] | rw [C_exit] | rw [C_skip] | rw [blk_ret] | rw [blk_norm] | rw [blk_exit] | rw [blk_exit' (by decide)] | rw [blkT_ret] | rw [blkT_norm] | rw [blkT_exit] | rw [blkT_exit' (by decide)] | rw [s_blk] | rw [s_reg (by simp [go_sem]; exact ⟨rfl, rfl⟩)] | rw [t_cnd (by simp [lk, keepEnv, Od.v]; exact rfl)] | rw [t_blk]))
          (try simp only [keepEnv, List.map_cons, List.map_nil, lk, reduceIte, Nat.reduceEqDiff, Nat.zero_ne_one, Nat.one_ne_zero])
          rw [l1]
          (repeat (first | rw [s_assoc] | rw [s_seq_reg (by simp [go_sem]; exact ⟨rfl, rfl⟩)] | rw [s_cnd (by simp [lk, keepEnv, Od.v]; exact rfl)] | rw [cnd_t] | rw [cnd_f] | rw [s_skip] | rw [s_ret] | rw [s_exit] | rw [C_ret] | rw [C_exit] | rw [C_skip] | rw [blk_ret] | rw [blk_norm] | rw [blk_exit] | rw [blk_exit' (by decide)] | rw [blkT_ret] | rw [blkT_norm] | rw [blkT_exit] | rw [blkT_exit' (by decide)] | rw [s_blk] | rw [s_reg (by simp [go_sem]; exact ⟨rfl, rfl⟩)] | rw [t_cnd (by simp [lk, keepEnv, Od.v]; exact rfl)] | rw [t_blk]))
          (try simp only [keepEnv, List.map_cons, List.map_nil, lk, reduceIte, Nat.reduceEqDiff, Nat.zero_ne_one, Nat.one_ne_zero])
          rw [l2]
          (repeat (first | rw [s_assoc] | rw [s_seq_reg (by simp [go_sem]; exact ⟨rfl, rfl⟩)] | rw [s_cnd (by simp [lk, keepEnv, Od.v]; exact rfl)] | rw [cnd_t] | rw [cnd_f] | rw [s_skip] | rw [s_ret] | rw [s_exit] | rw [C_ret] | rw [C_exit] | rw [C_skip] | rw [blk_ret] | rw [blk_norm] | rw [blk_exit] | rw [blk_exit' (by decide)] | rw [blkT_ret] | rw [blkT_norm] | rw [blkT_exit] | rw [blkT_exit' (by decide)] | rw [s_blk] | rw [s_reg (by simp [go_sem]; exact ⟨rfl, rfl⟩)] | rw [t_cnd (by simp [lk, keepEnv, Od.v]; exact rfl)] | rw [t_blk]))
          (try simp only [keepEnv, List.map_cons, List.map_nil, lk, reduceIte, Nat.reduceEqDiff, Nat.zero_ne_one, Nat.one_ne_zero])
          rw [l3]
          (repeat (first | rw [s_assoc] | rw [s_seq_reg (by simp [go_sem]; exact ⟨rfl, rfl⟩)] | rw [s_cnd (by simp [lk, keepEnv, Od.v]; exact rfl)] | rw [cnd_t] | rw [cnd_f] | rw [s_skip] | rw [s_ret] | rw [s_exit] | rw [C_ret] | rw [C_exit] | rw [C_skip] | rw [blk_ret] | rw [blk_norm] | rw [blk_exit] | rw [blk_exit' (by decide)] | rw [blkT_ret] | rw [blkT_norm] | rw [blkT_exit] | rw [blkT_exit' (by decide)] | rw [s_blk] | rw [s_reg (by simp [go_sem]; exact ⟨rfl, rfl⟩)] | rw [t_cnd (by simp [lk, keepEnv, Od.v]; exact rfl)] | rw [t_blk]))
          rw [ends_ret]
          simp [resL, lk, keepEnv, hf1]
        · (repeat (first | rw [s_assoc] | rw [s_seq_reg (by simp [go_sem]; exact ⟨rfl, rfl⟩)] | rw [s_cnd (by simp [lk, keepEnv, Od.v]; exact rfl)] | rw [cnd_t] | rw [cnd_f] | rw [s_skip] | rw [s_ret] | rw [s_exit] | rw [C_ret] | rw [C_exit] | rw [C_skip] | rw [blk_ret] | rw [blk_norm] | rw [blk_exit] | rw [blk_exit' (by decide)] | rw [blkT_ret] | rw [blkT_norm] | rw [blkT_exit] | rw [blkT_exit' (by decide)] | rw [s_blk] | rw [s_reg (by simp [go_sem]; exact ⟨rfl, rfl⟩)] | rw [t_cnd (by simp [lk, keepEnv, Od.v]; exact rfl)] | rw [t_blk]))
          (try simp only [keepEnv, List.map_cons, List.map_nil, lk, reduceIte, Nat.reduceEqDiff, Nat.zero_ne_one, Nat.one_ne_zero])
          rw [l0]
          (repeat (first | rw [s_assoc] | rw [s_seq_reg (by simp [go_sem]; exact ⟨rfl, rfl⟩)] | rw [s_cnd (by simp [lk, keepEnv, Od.v]; exact rfl)] | rw [cnd_t] | rw [cnd_f] | rw [s_skip] | rw [s_ret] | rw [s_exit] | rw [C_ret] | rw [C_exit] | rw [C_skip] | rw [blk_ret] | rw [blk_norm] | rw [blk_exit] | rw [blk_exit' (by decide)] | rw [blkT_ret] | rw [blkT_norm] | rw [blkT_exit] | rw [blkT_exit' (by decide)] | rw [s_blk] | rw [s_reg (by simp [go_sem]; exact ⟨rfl, rfl⟩)] | rw [t_cnd (by simp [lk, keepEnv, Od.v]; exact rfl)] | rw [t_blk]))
          (try simp only [keepEnv, List.map_cons, List.map_nil, lk, reduceIte, Nat.reduceEqDiff, Nat.zero_ne_one, Nat.one_ne_zero])
          rw [l1]
          (repeat (first | rw [s_assoc] | rw [s_seq_reg (by simp [go_sem]; exact ⟨rfl, rfl⟩)] | rw [s_cnd (by simp [lk, keepEnv, Od.v]; exact rfl)] | rw [cnd_t] | rw [cnd_f] | rw [s_skip] | rw [s_ret] | rw [s_exit] | rw [C_ret] | rw [C_exit] | rw [C_skip] | rw [blk_ret] | rw [blk_norm] | rw [blk_exit] | rw [blk_exit' (by decide)] | rw [blkT_ret] | rw [blkT_norm] | rw [blkT_exit] | rw [blkT_exit' (by decide)] | rw [s_blk] | rw [s_reg (by simp [go_sem]; exact ⟨rfl, rfl⟩)] | rw [t_cnd (by simp [lk, keepEnv, Od.v]; exact rfl)] | rw [t_blk]))
          (try simp only [keepEnv, List.map_cons, List.map_nil, lk, reduceIte, Nat.reduceEqDiff, Nat.zero_ne_one, Nat.one_ne_zero])
          rw [l2]
          (repeat (first | rw [s_assoc] | rw [s_seq_reg (by simp [go_sem]; exact ⟨rfl, rfl⟩)] | rw [s_cnd (by simp [lk, keepEnv, Od.v]; exact rfl)] | rw [cnd_t] | rw [cnd_f] | rw [s_skip] | rw [s_ret] | rw [s_exit] | rw [C_ret] | rw [C_exit] | rw [C_skip] | rw [blk_ret] | rw [blk_norm] | rw [blk_exit] | rw [blk_exit' (by decide)] | rw [blkT_ret] | rw [blkT_norm] | rw [blkT_exit] | rw [blkT_exit' (by decide)] | rw [s_blk] | rw [s_reg (by simp [go_sem]; exact ⟨rfl, rfl⟩)] | rw [t_cnd (by simp [lk, keepEnv, Od.v]; exact rfl)] | rw [t_blk]))
          (try simp only [keepEnv, List.map_cons, List.map_nil, lk, reduceIte, Nat.reduceEqDiff, Nat.zero_ne_one, Nat.one_ne_zero])
          rw [l3]
          (repeat (first | rw [s_assoc] | rw [s_seq_reg (by simp [go_sem]; exact ⟨rfl, rfl⟩)] | rw [s_cnd (by simp [lk, keepEnv, Od.v]; exact rfl)] | rw [cnd_t] | rw [cnd_f] | rw [s_skip] | rw [s_ret] | rw [s_exit] | rw [C_ret] | rw [C_exit] | rw [C_skip] | rw [blk_ret] | rw [blk_norm] | rw [blk_exit] | rw [blk_exit' (by decide)] | rw [blkT_ret] | rw [blkT_norm] | rw [blkT_exit] | rw [blkT_exit' (by decide)] | rw [s_blk] | rw [s_reg (by simp [go_sem]; exact ⟨rfl, rfl⟩)] | rw [t_cnd (by simp [lk, keepEnv, Od.v]; exact rfl)] | rw [t_blk]))
          rw [ends_ret]
          simp [resL, lk, keepEnv, hf1]
      · (repeat (first | rw [s_assoc] | rw [s_seq_reg (by simp [go_sem]; exact ⟨rfl, rfl⟩)] | rw [s_cnd (by simp [lk, keepEnv, Od.v]; exact rfl)] | rw [cnd_t] | rw [cnd_f] | rw [s_skip] | rw [s_ret] | rw [s_exit] | rw [C_ret] | rw [C_exit] | rw [C_skip] | rw [blk_ret] | rw [blk_norm] | rw [blk_exit] | rw [blk_exit' (by decide)] | rw [blkT_ret] | rw [blkT_norm] | rw [blkT_exit] | rw [blkT_exit' (by decide)] | rw [s_blk] | rw [s_reg (by simp [go_sem]; exact ⟨rfl, rfl⟩)] | rw [t_cnd (by simp [lk, keepEnv, Od.v]; exact rfl)] | rw [t_blk]))
        (try simp only [keepEnv, List.map_cons, List.map_nil, lk, reduceIte, Nat.reduceEqDiff, Nat.zero_ne_one, Nat.one_ne_zero])
        rw [l0]
        (repeat (first | rw [s_assoc] | rw [s_seq_reg (by simp [go_sem]; exact ⟨rfl, rfl⟩)] | rw [s_cnd (by simp [lk, keepEnv, Od.v]; exact rfl)] | rw [cnd_t] | rw [cnd_f] | rw [s_skip] | rw [s_ret] | rw [s_exit] | rw [C_ret] | rw [C_exit] | rw [C_skip] | rw [blk_ret] | rw [blk_norm] | rw [blk_exit] | rw [blk_exit' (by decide)] | rw [blkT_ret] | rw [blkT_norm] | rw [blkT_exit] | rw [blkT_exit' (by decide)] | rw [s_blk] | rw [s_reg (by simp [go_sem]; exact ⟨rfl, rfl⟩)] | rw [t_cnd (by simp [lk, keepEnv, Od.v]; exact rfl)] | rw [t_blk]))
        (try simp only [keepEnv, List.map_cons, List.map_nil, lk, reduceIte, Nat.reduceEqDiff, Nat.zero_ne_one, Nat.one_ne_zero])
        rw [l1]
        (repeat (first | rw [s_assoc] | rw [s_seq_reg (by simp [go_sem]; exact ⟨rfl, rfl⟩)] | rw [s_cnd (by simp [lk, keepEnv, Od.v]; exact rfl)] | rw [cnd_t] | rw [cnd_f] | rw [s_skip] | rw [s_ret] | rw [s_exit] | rw [C_ret] | rw [C_exit] | rw [C_skip] | rw [blk_ret] | rw [blk_norm] | rw [blk_exit] | rw [blk_exit' (by decide)] | rw [blkT_ret] | rw [blkT_norm] | rw [blkT_exit] | rw [blkT_exit' (by decide)] | rw [s_blk] | rw [s_reg (by simp [go_sem]; exact ⟨rfl, rfl⟩)] | rw [t_cnd (by simp [lk, keepEnv, Od.v]; exact rfl)] | rw [t_blk]))
        (try simp only [keepEnv, List.map_cons, List.map_nil, lk, reduceIte, Nat.reduceEqDiff, Nat.zero_ne_one, Nat.one_ne_zero])
        rw [l2]
        (repeat (first | rw [s_assoc] | rw [s_seq_reg (by simp [go_sem]; exact ⟨rfl, rfl⟩)] | rw [s_cnd (by simp [lk, keepEnv, Od.v]; exact rfl)] | rw [cnd_t] | rw [cnd_f] | rw [s_skip] | rw [s_ret] | rw [s_exit] | rw [C_ret] | rw [C_exit] | rw [C_skip] | rw [blk_ret] | rw [blk_norm] | rw [blk_exit] | rw [blk_exit' (by decide)] | rw [blkT_ret] | rw [blkT_norm] | rw [blkT_exit] | rw [blkT_exit' (by decide)] | rw [s_blk] | rw [s_reg (by simp [go_sem]; exact ⟨rfl, rfl⟩)] | rw [t_cnd (by simp [lk, keepEnv, Od.v]; exact rfl)] | rw [t_blk]))
        rw [ends_ret]
        simp [resL, lk, keepEnv, hf1]
    · (repeat (first | rw [s_assoc] | rw [s_seq_reg (by simp [go_sem]; exact ⟨rfl, rfl⟩)] | rw [s_cnd (by simp [lk, keepEnv, Od.v]; exact rfl)] | rw [cnd_t] | rw [cnd_f] | rw [s_skip] | rw [s_ret] | rw [s_exit] | rw [C_ret] | rw [C_exit] | rw [C_skip] | rw [blk_ret] | rw [blk_norm] | rw [blk_exit] | rw [blk_exit' (by decide)] | rw [blkT_ret] | rw [blkT_norm] | rw [blkT_exit] | rw [blkT_exit' (by decide)] | rw [s_blk] | rw [s_reg (by simp [go_sem]; exact ⟨rfl, rfl⟩)] | rw [t_cnd (by simp [lk, keepEnv, Od.v]; exact rfl)] | rw [t_blk]))
      (try simp only [keepEnv, List.map_cons, List.map_nil, lk, reduceIte, Nat.reduceEqDiff, Nat.zero_ne_one, Nat.one_ne_zero])
      rw [l0]
      (repeat (first | rw [s_assoc] | rw [s_seq_reg (by simp [go_sem]; exact ⟨rfl, rfl⟩)] | rw [s_cnd (by simp [lk, keepEnv, Od.v]; exact rfl)] | rw [cnd_t] | rw [cnd_f] | rw [s_skip] | rw [s_ret] | rw [s_exit] | rw [C_ret] | rw [C_exit] | rw [C_skip] | rw [blk_ret] | rw [blk_norm] | rw [blk_exit] | rw [blk_exit' (by decide)] | rw [blkT_ret] | rw [blkT_norm] | rw [blkT_exit] | rw [blkT_exit' (by decide)] | rw [s_blk] | rw [s_reg (by simp [go_sem]; exact ⟨rfl, rfl⟩)] | rw [t_cnd (by simp [lk, keepEnv, Od.v]; exact rfl)] | rw [t_blk]))
      (try simp only [keepEnv, List.map_cons, List.map_nil, lk, reduceIte, Nat.reduceEqDiff, Nat.zero_ne_one, Nat.one_ne_zero])
      rw [l1]
      (repeat (first | rw [s_assoc] | rw [s_seq_reg (by simp [go_sem]; exact ⟨rfl, rfl⟩)] | rw [s_cnd (by simp [lk, keepEnv, Od.v]; exact rfl)] | rw [cnd_t] | rw [cnd_f] | rw [s_skip] | rw [s_ret] | rw [s_exit] | rw [C_ret] | rw [C_exit] | rw [C_skip] | rw [blk_ret] | rw [blk_norm] | rw [blk_exit] | rw [blk_exit' (by decide)] | rw [blkT_ret] | rw [blkT_norm] | rw [blkT_exit] | rw [blkT_exit' (by decide)] | rw [s_blk] | rw [s_reg (by simp [go_sem]; exact ⟨rfl, rfl⟩)] | rw [t_cnd (by simp [lk, keepEnv, Od.v]; exact rfl)] | rw [t_blk]))
      rw [ends_ret]
      simp [resL, lk, keepEnv, hf1]
  · (repeat (first | rw [s_assoc] | rw [s_seq_reg (by simp [go_sem]; exact ⟨rfl, rfl⟩)] | rw [s_cnd (by simp [lk, keepEnv, Od.v]; exact rfl)] | rw [cnd_t] | rw [cnd_f] | rw [s_skip] | rw [s_ret] | rw [s_exit] | rw [C_ret] | rw [C_exit] | rw [C_skip] | rw [blk_ret] | rw [blk_norm] | rw [blk_exit] | rw [blk_exit' (by decide)] | rw [blkT_ret] | rw [blkT_norm] | rw [blkT_exit] | rw [blkT_exit' (by decide)] | rw [s_blk] | rw [s_reg (by simp [go_sem]; exact ⟨rfl, rfl⟩)] | rw [t_cnd (by simp [lk, keepEnv, Od.v]; exact rfl)] | rw [t_blk]))
    (try simp only [keepEnv, List.map_cons, List.map_nil, lk, reduceIte, Nat.reduceEqDiff, Nat.zero_ne_one, Nat.one_ne_zero])
    rw [l0]
    (repeat (first | rw [s_assoc] | rw [s_seq_reg (by simp [go_sem]; exact ⟨rfl, rfl⟩)] | rw [s_cnd (by simp [lk, keepEnv, Od.v]; exact rfl)] | rw [cnd_t] | rw [cnd_f] | rw [s_skip] | rw [s_ret] | rw [s_exit] | rw [C_ret] | rw [C_exit] | rw [C_skip] | rw [blk_ret] | rw [blk_norm] | rw [blk_exit] | rw [blk_exit' (by decide)] | rw [blkT_ret] | rw [blkT_norm] | rw [blkT_exit] | rw [blkT_exit' (by decide)] | rw [s_blk] | rw [s_reg (by simp [go_sem]; exact ⟨rfl, rfl⟩)] | rw [t_cnd (by simp [lk, keepEnv, Od.v]; exact rfl)] | rw [t_blk]))
    rw [ends_ret]
    simp [resL, lk, keepEnv, hf1]
end Go.Proofs.YtobpbjmnonbblaaDoor
