/- Ideal runs: the document's answer on queries (winnowerref16): Check. -/
import Derived.Test.YtobpbjmnonbblaaDoorQryS
namespace Go.Proofs.YtobpbjmnonbblaaDoor
attribute [local go_sem] evOps evOp_n evOp_r evOp_d evOp_dr kpo_refl kpo_app cnd_some cnd_pair cnd_cnd_t cnd_cnd_f cnd_same cnd_dvb cnd_and cnd_or gd_bool gd_boolf gd_tup cnd_t cnd_f evTo isCall evx put lk Od.v keepEnv enterEnv ldx_ref rdc binx binI binS unx eqk DV.isU DV.cells hget hget0 hset hset0 stx_ref splice fillp mat eqcs eqs one_bool one_int one_str one_nilp one_ref one_elem one_nils one_list one_row one_nilm one_map one_nilf one_func one_nili one_ifc one_agg one_tup one_undef one_fresh
attribute [local go_sem ↓] evx_pick
set_option linter.unusedVariables false
set_option linter.unusedSimpArgs false
set_option maxRecDepth 10000
theorem SlI.src {A : DV} {l : List Int} (h : SlI A l) (g : Heap) : srcOf g 1 A = some (l.map intD) := by
  rcases h with ⟨c, rfl⟩ | ⟨rfl, rfl⟩ <;> rfl
theorem loop16_0 {h : Heap} {Cd F Cn Gr Ag So : DV} {s : Sch} {xs : List N} {b b1 : Nat} {l : Int} (hC : ∀ g, vw g 3 Cd = some (s.cols.map Cl.d)) (hb : h[b]? = some (.box 24 (schC Cd s))) (hb1 : h[b1]? = some (.box 30 (qryC F Cn Gr Ag So l))) (hF : vw h 8 F = some (xs.map N.d)) (hl : xs.length ≤ 1000) :
    ∀ (k i : Nat), xs.length - i ≤ k → i ≤ xs.length → (∃ ex, C X (.loop lp16_0) [(2, .ref b 0), (3, .ref b1 0), (6, .int .i64 i)] h = some (.exit 0, (2, .ref b 0) :: (3, .ref b1 0) :: ex, h) ∧ filtV s (xs.drop i) i = 0) ∨ (C X (.loop lp16_0) [(2, .ref b 0), (3, .ref b1 0), (6, .int .i64 i)] h = some (.ret, [(4, .int .i64 (filtV s (xs.drop i) i))], h) ∧ filtV s (xs.drop i) i ≠ 0) := by
  intro k
  induction k with
  | zero =>
    intro i hk hi
    obtain rfl : i = xs.length := by omega
    refine .inl ⟨[(6, .int .i64 xs.length), (60, .bool false)], ?_, by simp [filtV]⟩
    simp only [qryC] at *
    rw [t_loop]
    unfold lp16_0
    (repeat (first | rw [s_assoc] | rw [s_seq_reg (by simp [go_sem, hF, hb1, ldx]; exact ⟨rfl, rfl⟩)] | rw [s_cnd (by simp [lk, keepEnv, Od.v, hF, hb1, ldx]; exact rfl)] | rw [cnd_t] | rw [cnd_f] | rw [s_skip] | rw [s_ret] | rw [s_exit] | rw [C_ret] | rw [C_exit] | rw [C_skip] | rw [blk_ret] | rw [blk_norm] | rw [blk_exit] | rw [blk_exit' (by decide)] | rw [blkT_ret] | rw [blkT_norm] | rw [blkT_exit] | rw [blkT_exit' (by decide)] | rw [s_blk] | rw [s_reg (by simp [go_sem, hF, hb1, ldx]; exact ⟨rfl, rfl⟩)] | rw [t_cnd (by simp [lk, keepEnv, Od.v, hF, hb1, ldx]; exact rfl)] | rw [t_blk]))
    rw [lp_exit]
    simp [keepEnv, lk]
  | succ k ih =>
    intro i hk hi
    by_cases c : i < xs.length
    · obtain ⟨I, hI⟩ : ∃ I, I = i + 1 := ⟨_, rfl⟩
      have z1 : IntKind.i64.wrap ((i : Int) + 1) = (I : Int) := (by rw [wrap64 _ (by omega) (by omega)]; omega)
      obtain ⟨x, hx⟩ : ∃ x, x = xs[i] := ⟨_, rfl⟩
      have hxi : xs[i]? = some x := by rw [hx]; exact List.getElem?_eq_getElem c
      have hx' := hx.symm
      have hd : xs.drop i = x :: xs.drop I := by rw [List.drop_eq_getElem_cons c, ← hx, hI]
      have e36 := fun g => run36 hC x i g
      rw [hd, filtV]
      have hIH := ih I (by omega) (by omega)
      by_cases h0 : nodeV s i x = 0
      · rw [if_pos h0, ← hI]
        rw [h0] at e36
        have hs : C X lp16_0 [(2, .ref b 0), (3, .ref b1 0), (6, .int .i64 i)] h = some (.norm, [(2, .ref b 0), (3, .ref b1 0), (6, .int .i64 I)], h) := by
          clear ih hIH hx hd h0 hI
          obtain ⟨cols, k1, k2, k3, k4⟩ := s
          obtain ⟨ask, col, ⟨vk, vn, vs', vt⟩, xa, xb⟩ := x
          simp only [schD, schC, N.d, V.d, qryC] at *
          unfold lp16_0
          (repeat (first | rw [s_assoc] | rw [s_seq_reg (by simp [go_sem, c, z1, hF, hx', hxi, e36, hb, hb1, ldx]; exact ⟨rfl, rfl⟩)] | rw [s_cnd (by simp [lk, keepEnv, Od.v, c, z1, hF, hx', hxi, e36, hb, hb1, ldx]; exact rfl)] | rw [cnd_t] | rw [cnd_f] | rw [s_skip] | rw [s_ret] | rw [s_exit] | rw [C_ret] | rw [C_exit] | rw [C_skip] | rw [blk_ret] | rw [blk_norm] | rw [blk_exit] | rw [blk_exit' (by decide)] | rw [blkT_ret] | rw [blkT_norm] | rw [blkT_exit] | rw [blkT_exit' (by decide)] | rw [s_blk] | rw [s_reg (by simp [go_sem, c, z1, hF, hx', hxi, e36, hb, hb1, ldx]; exact ⟨rfl, rfl⟩)] | rw [t_cnd (by simp [lk, keepEnv, Od.v, c, z1, hF, hx', hxi, e36, hb, hb1, ldx]; exact rfl)] | rw [t_blk]))
          simp [keepEnv, lk]
        rw [t_loop, hs, lp_norm]
        exact hIH
      · rw [if_neg h0]
        have h0' : (nodeV s i x != 0) = true := by simpa using h0
        right
        have hs : C X lp16_0 [(2, .ref b 0), (3, .ref b1 0), (6, .int .i64 i)] h = some (.ret, [(4, .int .i64 (nodeV s i x))], h) := by
          clear ih hIH hx hd hI
          generalize nodeV s i x = r at *
          obtain ⟨cols, k1, k2, k3, k4⟩ := s
          obtain ⟨ask, col, ⟨vk, vn, vs', vt⟩, xa, xb⟩ := x
          simp only [schD, schC, N.d, V.d, qryC] at *
          unfold lp16_0
          (repeat (first | rw [s_assoc] | rw [s_seq_reg (by simp [go_sem, c, z1, hF, hx', hxi, e36, hb, hb1, h0, h0', ldx]; exact ⟨rfl, rfl⟩)] | rw [s_cnd (by simp [lk, keepEnv, Od.v, c, z1, hF, hx', hxi, e36, hb, hb1, h0, h0', ldx]; exact rfl)] | rw [cnd_t] | rw [cnd_f] | rw [s_skip] | rw [s_ret] | rw [s_exit] | rw [C_ret] | rw [C_exit] | rw [C_skip] | rw [blk_ret] | rw [blk_norm] | rw [blk_exit] | rw [blk_exit' (by decide)] | rw [blkT_ret] | rw [blkT_norm] | rw [blkT_exit] | rw [blkT_exit' (by decide)] | rw [s_blk] | rw [s_reg (by simp [go_sem, c, z1, hF, hx', hxi, e36, hb, hb1, h0, h0', ldx]; exact ⟨rfl, rfl⟩)] | rw [t_cnd (by simp [lk, keepEnv, Od.v, c, z1, hF, hx', hxi, e36, hb, hb1, h0, h0', ldx]; exact rfl)] | rw [t_blk]))
          simp [keepEnv, lk]
        rw [t_loop, hs, lp_ret]
        exact ⟨rfl, h0⟩
    · exact ih i (by omega) hi
theorem loop16_1 {h : Heap} {Cd K : DV} {s : Sch} {xs : List Int} {b b1 : Nat} (hC : ∀ g, vw g 3 Cd = some (s.cols.map Cl.d)) (hb : h[b]? = some (.box 24 (schC Cd s))) (hK : vw h 1 K = some (xs.map intD)) (hl : xs.length ≤ 10000) :
    ∀ (k i : Nat), xs.length - i ≤ k → i ≤ xs.length → (∃ ex, C X (.loop lp16_1) [(2, .ref b 0), (3, .ref b1 0), (8, K), (9, .int .i64 i)] h = some (.exit 2, (2, .ref b 0) :: (3, .ref b1 0) :: ex, h) ∧ (xs.drop i).any (fun k => !hasV s k) = false) ∨ (C X (.loop lp16_1) [(2, .ref b 0), (3, .ref b1 0), (8, K), (9, .int .i64 i)] h = some (.ret, [(4, .int .i64 3)], h) ∧ (xs.drop i).any (fun k => !hasV s k) = true) := by
  intro k
  induction k with
  | zero =>
    intro i hk hi
    obtain rfl : i = xs.length := by omega
    refine .inl ⟨[(8, K), (9, .int .i64 xs.length), (83, .bool false)], ?_, by simp⟩
    rw [t_loop]
    unfold lp16_1
    (repeat (first | rw [s_assoc] | rw [s_seq_reg (by simp [go_sem, hK]; exact ⟨rfl, rfl⟩)] | rw [s_cnd (by simp [lk, keepEnv, Od.v, hK]; exact rfl)] | rw [cnd_t] | rw [cnd_f] | rw [s_skip] | rw [s_ret] | rw [s_exit] | rw [C_ret] | rw [C_exit] | rw [C_skip] | rw [blk_ret] | rw [blk_norm] | rw [blk_exit] | rw [blk_exit' (by decide)] | rw [blkT_ret] | rw [blkT_norm] | rw [blkT_exit] | rw [blkT_exit' (by decide)] | rw [s_blk] | rw [s_reg (by simp [go_sem, hK]; exact ⟨rfl, rfl⟩)] | rw [t_cnd (by simp [lk, keepEnv, Od.v, hK]; exact rfl)] | rw [t_blk]))
    rw [lp_exit]
    simp [keepEnv, lk]
  | succ k ih =>
    intro i hk hi
    by_cases c : i < xs.length
    · obtain ⟨I, hI⟩ : ∃ I, I = i + 1 := ⟨_, rfl⟩
      have z1 : IntKind.i64.wrap ((i : Int) + 1) = (I : Int) := (by rw [wrap64 _ (by omega) (by omega)]; omega)
      obtain ⟨x, hx⟩ : ∃ x, x = xs[i] := ⟨_, rfl⟩
      have hxi : xs[i]? = some x := by rw [hx]; exact List.getElem?_eq_getElem c
      have hx' := hx.symm
      have hd : xs.drop i = x :: xs.drop I := by rw [List.drop_eq_getElem_cons c, ← hx, hI]
      have e37 := fun g => run37 hC x g
      rw [hd, List.any_cons]
      have hIH := ih I (by omega) (by omega)
      cases h0 : hasV s x
      · right
        rw [h0] at e37
        have hs : C X lp16_1 [(2, .ref b 0), (3, .ref b1 0), (8, K), (9, .int .i64 i)] h = some (.ret, [(4, .int .i64 3)], h) := by
          clear ih hIH hx hd hI h0
          obtain ⟨cols, k1, k2, k3, k4⟩ := s
          simp only [schD, schC, intD] at *
          unfold lp16_1
          (repeat (first | rw [s_assoc] | rw [s_seq_reg (by simp [go_sem, c, z1, hK, hx', hxi, e37, hb, ldx]; exact ⟨rfl, rfl⟩)] | rw [s_cnd (by simp [lk, keepEnv, Od.v, c, z1, hK, hx', hxi, e37, hb, ldx]; exact rfl)] | rw [cnd_t] | rw [cnd_f] | rw [s_skip] | rw [s_ret] | rw [s_exit] | rw [C_ret] | rw [C_exit] | rw [C_skip] | rw [blk_ret] | rw [blk_norm] | rw [blk_exit] | rw [blk_exit' (by decide)] | rw [blkT_ret] | rw [blkT_norm] | rw [blkT_exit] | rw [blkT_exit' (by decide)] | rw [s_blk] | rw [s_reg (by simp [go_sem, c, z1, hK, hx', hxi, e37, hb, ldx]; exact ⟨rfl, rfl⟩)] | rw [t_cnd (by simp [lk, keepEnv, Od.v, c, z1, hK, hx', hxi, e37, hb, ldx]; exact rfl)] | rw [t_blk]))
          simp [keepEnv, lk]
        rw [t_loop, hs, lp_ret]
        exact ⟨rfl, rfl⟩
      · rw [h0] at e37
        have hs : C X lp16_1 [(2, .ref b 0), (3, .ref b1 0), (8, K), (9, .int .i64 i)] h = some (.norm, [(2, .ref b 0), (3, .ref b1 0), (8, K), (9, .int .i64 I)], h) := by
          clear ih hIH hx hd hI h0
          obtain ⟨cols, k1, k2, k3, k4⟩ := s
          simp only [schD, schC, intD] at *
          unfold lp16_1
          (repeat (first | rw [s_assoc] | rw [s_seq_reg (by simp [go_sem, c, z1, hK, hx', hxi, e37, hb, ldx]; exact ⟨rfl, rfl⟩)] | rw [s_cnd (by simp [lk, keepEnv, Od.v, c, z1, hK, hx', hxi, e37, hb, ldx]; exact rfl)] | rw [cnd_t] | rw [cnd_f] | rw [s_skip] | rw [s_ret] | rw [s_exit] | rw [C_ret] | rw [C_exit] | rw [C_skip] | rw [blk_ret] | rw [blk_norm] | rw [blk_exit] | rw [blk_exit' (by decide)] | rw [blkT_ret] | rw [blkT_norm] | rw [blkT_exit] | rw [blkT_exit' (by decide)] | rw [s_blk] | rw [s_reg (by simp [go_sem, c, z1, hK, hx', hxi, e37, hb, ldx]; exact ⟨rfl, rfl⟩)] | rw [t_cnd (by simp [lk, keepEnv, Od.v, c, z1, hK, hx', hxi, e37, hb, ldx]; exact rfl)] | rw [t_blk]))
          simp [keepEnv, lk]
        rw [t_loop, hs, lp_norm, Bool.not_true, Bool.false_or]
        exact hIH
    · exact ih i (by omega) hi
theorem loop16_2 {h : Heap} {Cd F Cn Gr Ag So : DV} {s : Sch} {xs : List (Int × Int)} {b b1 : Nat} {l : Int} (hC : ∀ g, vw g 3 Cd = some (s.cols.map Cl.d)) (hb : h[b]? = some (.box 24 (schC Cd s))) (hb1 : h[b1]? = some (.box 30 (qryC F Cn Gr Ag So l))) (hA : ∀ g, vw g 2 Ag = some (xs.map agD)) (hl : xs.length ≤ 1000) :
    ∀ (k i : Nat), xs.length - i ≤ k → i ≤ xs.length → (∃ ex, C X (.loop lp16_2) [(2, .ref b 0), (3, .ref b1 0), (10, .int .i64 i)] h = some (.exit 4, (2, .ref b 0) :: (3, .ref b1 0) :: ex, h) ∧ aggsV s (xs.drop i) = 0) ∨ (C X (.loop lp16_2) [(2, .ref b 0), (3, .ref b1 0), (10, .int .i64 i)] h = some (.ret, [(4, .int .i64 (aggsV s (xs.drop i)))], h) ∧ aggsV s (xs.drop i) ≠ 0) := by
  intro k
  induction k with
  | zero =>
    intro i hk hi
    obtain rfl : i = xs.length := by omega
    refine .inl ⟨[(10, .int .i64 xs.length), (97, .bool false)], ?_, by simp [aggsV]⟩
    simp only [qryC] at *
    rw [t_loop]
    unfold lp16_2
    (repeat (first | rw [s_assoc] | rw [s_seq_reg (by simp [go_sem, hA, hb1, ldx]; exact ⟨rfl, rfl⟩)] | rw [s_cnd (by simp [lk, keepEnv, Od.v, hA, hb1, ldx]; exact rfl)] | rw [cnd_t] | rw [cnd_f] | rw [s_skip] | rw [s_ret] | rw [s_exit] | rw [C_ret] | rw [C_exit] | rw [C_skip] | rw [blk_ret] | rw [blk_norm] | rw [blk_exit] | rw [blk_exit' (by decide)] | rw [blkT_ret] | rw [blkT_norm] | rw [blkT_exit] | rw [blkT_exit' (by decide)] | rw [s_blk] | rw [s_reg (by simp [go_sem, hA, hb1, ldx]; exact ⟨rfl, rfl⟩)] | rw [t_cnd (by simp [lk, keepEnv, Od.v, hA, hb1, ldx]; exact rfl)] | rw [t_blk]))
    rw [lp_exit]
    simp [keepEnv, lk]
  | succ k ih =>
    intro i hk hi
    by_cases c : i < xs.length
    · obtain ⟨I, hI⟩ : ∃ I, I = i + 1 := ⟨_, rfl⟩
      have z1 : IntKind.i64.wrap ((i : Int) + 1) = (I : Int) := (by rw [wrap64 _ (by omega) (by omega)]; omega)
      obtain ⟨x, hx⟩ : ∃ x, x = xs[i] := ⟨_, rfl⟩
      have hxi : xs[i]? = some x := by rw [hx]; exact List.getElem?_eq_getElem c
      have hx' := hx.symm
      have hd : xs.drop i = x :: xs.drop I := by rw [List.drop_eq_getElem_cons c, ← hx, hI]
      have e38 := fun g => run38 hC x g
      rw [hd, aggsV]
      have hIH := ih I (by omega) (by omega)
      by_cases h0 : aggV s x = 0
      · rw [if_pos h0]
        rw [h0] at e38
        have hs : C X lp16_2 [(2, .ref b 0), (3, .ref b1 0), (10, .int .i64 i)] h = some (.norm, [(2, .ref b 0), (3, .ref b1 0), (10, .int .i64 I)], h) := by
          clear ih hIH hx hd h0 hI
          obtain ⟨cols, k1, k2, k3, k4⟩ := s
          obtain ⟨x1, x2⟩ := x
          simp only [schD, schC, agD, qryC] at *
          unfold lp16_2
          (repeat (first | rw [s_assoc] | rw [s_seq_reg (by simp [go_sem, c, z1, hA, hx', hxi, e38, hb, hb1, ldx]; exact ⟨rfl, rfl⟩)] | rw [s_cnd (by simp [lk, keepEnv, Od.v, c, z1, hA, hx', hxi, e38, hb, hb1, ldx]; exact rfl)] | rw [cnd_t] | rw [cnd_f] | rw [s_skip] | rw [s_ret] | rw [s_exit] | rw [C_ret] | rw [C_exit] | rw [C_skip] | rw [blk_ret] | rw [blk_norm] | rw [blk_exit] | rw [blk_exit' (by decide)] | rw [blkT_ret] | rw [blkT_norm] | rw [blkT_exit] | rw [blkT_exit' (by decide)] | rw [s_blk] | rw [s_reg (by simp [go_sem, c, z1, hA, hx', hxi, e38, hb, hb1, ldx]; exact ⟨rfl, rfl⟩)] | rw [t_cnd (by simp [lk, keepEnv, Od.v, c, z1, hA, hx', hxi, e38, hb, hb1, ldx]; exact rfl)] | rw [t_blk]))
          simp [keepEnv, lk]
        rw [t_loop, hs, lp_norm]
        exact hIH
      · rw [if_neg h0]
        have h0' : (aggV s x != 0) = true := by simpa using h0
        right
        have hs : C X lp16_2 [(2, .ref b 0), (3, .ref b1 0), (10, .int .i64 i)] h = some (.ret, [(4, .int .i64 (aggV s x))], h) := by
          clear ih hIH hx hd hI
          generalize aggV s x = r at *
          obtain ⟨cols, k1, k2, k3, k4⟩ := s
          obtain ⟨x1, x2⟩ := x
          simp only [schD, schC, agD, qryC] at *
          unfold lp16_2
          (repeat (first | rw [s_assoc] | rw [s_seq_reg (by simp [go_sem, c, z1, hA, hx', hxi, e38, hb, hb1, h0, h0', ldx]; exact ⟨rfl, rfl⟩)] | rw [s_cnd (by simp [lk, keepEnv, Od.v, c, z1, hA, hx', hxi, e38, hb, hb1, h0, h0', ldx]; exact rfl)] | rw [cnd_t] | rw [cnd_f] | rw [s_skip] | rw [s_ret] | rw [s_exit] | rw [C_ret] | rw [C_exit] | rw [C_skip] | rw [blk_ret] | rw [blk_norm] | rw [blk_exit] | rw [blk_exit' (by decide)] | rw [blkT_ret] | rw [blkT_norm] | rw [blkT_exit] | rw [blkT_exit' (by decide)] | rw [s_blk] | rw [s_reg (by simp [go_sem, c, z1, hA, hx', hxi, e38, hb, hb1, h0, h0', ldx]; exact ⟨rfl, rfl⟩)] | rw [t_cnd (by simp [lk, keepEnv, Od.v, c, z1, hA, hx', hxi, e38, hb, hb1, h0, h0', ldx]; exact rfl)] | rw [t_blk]))
          simp [keepEnv, lk]
        rw [t_loop, hs, lp_ret]
        exact ⟨rfl, h0⟩
    · exact ih i (by omega) hi
theorem loop16_3 {h : Heap} {F Cn Gr Ag So : DV} {ck : List Int} {xs : List (Int × Bool)} {b1 n : Nat} {l : Int} (hb1 : h[b1]? = some (.box 30 (qryC F Cn Gr Ag So l))) (hS : ∀ g, vw g 2 So = some (xs.map byD)) (hcn : ∀ g, vw g 1 Cn = some (ck.map intD)) (hl : xs.length ≤ 1000) (hck : ck.length ≤ 1000) (hn : n ≤ 2000) :
    ∀ (k i : Nat), xs.length - i ≤ k → i ≤ xs.length → (∃ ex, C X (.loop lp16_3) [(3, .ref b1 0), (12, .int .i64 n), (13, .int .i64 i)] h = some (.exit 6, (3, .ref b1 0) :: ex, h) ∧ (xs.drop i).any (fun x => decide (x.1 < 0) || decide (((ck.length + n : Nat) : Int) ≤ x.1)) = false) ∨ (C X (.loop lp16_3) [(3, .ref b1 0), (12, .int .i64 n), (13, .int .i64 i)] h = some (.ret, [(4, .int .i64 3)], h) ∧ (xs.drop i).any (fun x => decide (x.1 < 0) || decide (((ck.length + n : Nat) : Int) ≤ x.1)) = true) := by
  obtain ⟨M, hM⟩ : ∃ M, M = ck.length + n := ⟨_, rfl⟩
  have z9 : IntKind.i64.wrap ((ck.length : Int) + (n : Int)) = (M : Int) := (by rw [wrap64 _ (by omega) (by omega)]; omega)
  rw [← hM]
  intro k
  induction k with
  | zero =>
    intro i hk hi
    obtain rfl : i = xs.length := by omega
    refine .inl ⟨[(12, .int .i64 n), (13, .int .i64 xs.length), (139, .bool false)], ?_, by simp⟩
    simp only [qryC] at *
    rw [t_loop]
    unfold lp16_3
    (repeat (first | rw [s_assoc] | rw [s_seq_reg (by simp [go_sem, hS, hb1, ldx]; exact ⟨rfl, rfl⟩)] | rw [s_cnd (by simp [lk, keepEnv, Od.v, hS, hb1, ldx]; exact rfl)] | rw [cnd_t] | rw [cnd_f] | rw [s_skip] | rw [s_ret] | rw [s_exit] | rw [C_ret] | rw [C_exit] | rw [C_skip] | rw [blk_ret] | rw [blk_norm] | rw [blk_exit] | rw [blk_exit' (by decide)] | rw [blkT_ret] | rw [blkT_norm] | rw [blkT_exit] | rw [blkT_exit' (by decide)] | rw [s_blk] | rw [s_reg (by simp [go_sem, hS, hb1, ldx]; exact ⟨rfl, rfl⟩)] | rw [t_cnd (by simp [lk, keepEnv, Od.v, hS, hb1, ldx]; exact rfl)] | rw [t_blk]))
    rw [lp_exit]
    simp [keepEnv, lk]
  | succ k ih =>
    intro i hk hi
    by_cases c : i < xs.length
    · obtain ⟨I, hI⟩ : ∃ I, I = i + 1 := ⟨_, rfl⟩
      have z1 : IntKind.i64.wrap ((i : Int) + 1) = (I : Int) := (by rw [wrap64 _ (by omega) (by omega)]; omega)
      obtain ⟨x, hx⟩ : ∃ x, x = xs[i] := ⟨_, rfl⟩
      have hxi : xs[i]? = some x := by rw [hx]; exact List.getElem?_eq_getElem c
      have hx' := hx.symm
      have hd : xs.drop i = x :: xs.drop I := by rw [List.drop_eq_getElem_cons c, ← hx, hI]
      rw [hd, List.any_cons]
      have hIH := ih I (by omega) (by omega)
      by_cases h1 : x.1 < 0
      · right
        have hs : C X lp16_3 [(3, .ref b1 0), (12, .int .i64 n), (13, .int .i64 i)] h = some (.ret, [(4, .int .i64 3)], h) := by
          clear ih hIH hx hd hI
          obtain ⟨x1, x2⟩ := x
          simp only [byD, qryC] at *
          unfold lp16_3
          (repeat (first | rw [s_assoc] | rw [s_seq_reg (by simp [go_sem, c, z1, hS, hx', hxi, hb1, h1, ldx]; exact ⟨rfl, rfl⟩)] | rw [s_cnd (by simp [lk, keepEnv, Od.v, c, z1, hS, hx', hxi, hb1, h1, ldx]; exact rfl)] | rw [cnd_t] | rw [cnd_f] | rw [s_skip] | rw [s_ret] | rw [s_exit] | rw [C_ret] | rw [C_exit] | rw [C_skip] | rw [blk_ret] | rw [blk_norm] | rw [blk_exit] | rw [blk_exit' (by decide)] | rw [blkT_ret] | rw [blkT_norm] | rw [blkT_exit] | rw [blkT_exit' (by decide)] | rw [s_blk] | rw [s_reg (by simp [go_sem, c, z1, hS, hx', hxi, hb1, h1, ldx]; exact ⟨rfl, rfl⟩)] | rw [t_cnd (by simp [lk, keepEnv, Od.v, c, z1, hS, hx', hxi, hb1, h1, ldx]; exact rfl)] | rw [t_blk]))
          simp [keepEnv, lk]
        rw [t_loop, hs, lp_ret]
        exact ⟨rfl, by simp [h1]⟩
      by_cases h2 : (M : Int) ≤ x.1
      · right
        have hs : C X lp16_3 [(3, .ref b1 0), (12, .int .i64 n), (13, .int .i64 i)] h = some (.ret, [(4, .int .i64 3)], h) := by
          clear ih hIH hx hd hI
          obtain ⟨x1, x2⟩ := x
          simp only [byD, qryC] at *
          unfold lp16_3
          (repeat (first | rw [s_assoc] | rw [s_seq_reg (by simp [go_sem, c, z1, z9, hS, hcn, hx', hxi, hb1, h1, h2, ldx]; exact ⟨rfl, rfl⟩)] | rw [s_cnd (by simp [lk, keepEnv, Od.v, c, z1, z9, hS, hcn, hx', hxi, hb1, h1, h2, ldx]; exact rfl)] | rw [cnd_t] | rw [cnd_f] | rw [s_skip] | rw [s_ret] | rw [s_exit] | rw [C_ret] | rw [C_exit] | rw [C_skip] | rw [blk_ret] | rw [blk_norm] | rw [blk_exit] | rw [blk_exit' (by decide)] | rw [blkT_ret] | rw [blkT_norm] | rw [blkT_exit] | rw [blkT_exit' (by decide)] | rw [s_blk] | rw [s_reg (by simp [go_sem, c, z1, z9, hS, hcn, hx', hxi, hb1, h1, h2, ldx]; exact ⟨rfl, rfl⟩)] | rw [t_cnd (by simp [lk, keepEnv, Od.v, c, z1, z9, hS, hcn, hx', hxi, hb1, h1, h2, ldx]; exact rfl)] | rw [t_blk]))
          simp [keepEnv, lk]
        rw [t_loop, hs, lp_ret]
        exact ⟨rfl, by simp [h2]⟩
      · have hs : C X lp16_3 [(3, .ref b1 0), (12, .int .i64 n), (13, .int .i64 i)] h = some (.norm, [(3, .ref b1 0), (12, .int .i64 n), (13, .int .i64 I)], h) := by
          clear ih hIH hx hd hI
          obtain ⟨x1, x2⟩ := x
          simp only [byD, qryC] at *
          unfold lp16_3
          (repeat (first | rw [s_assoc] | rw [s_seq_reg (by simp [go_sem, c, z1, z9, hS, hcn, hx', hxi, hb1, h1, h2, ldx]; exact ⟨rfl, rfl⟩)] | rw [s_cnd (by simp [lk, keepEnv, Od.v, c, z1, z9, hS, hcn, hx', hxi, hb1, h1, h2, ldx]; exact rfl)] | rw [cnd_t] | rw [cnd_f] | rw [s_skip] | rw [s_ret] | rw [s_exit] | rw [C_ret] | rw [C_exit] | rw [C_skip] | rw [blk_ret] | rw [blk_norm] | rw [blk_exit] | rw [blk_exit' (by decide)] | rw [blkT_ret] | rw [blkT_norm] | rw [blkT_exit] | rw [blkT_exit' (by decide)] | rw [s_blk] | rw [s_reg (by simp [go_sem, c, z1, z9, hS, hcn, hx', hxi, hb1, h1, h2, ldx]; exact ⟨rfl, rfl⟩)] | rw [t_cnd (by simp [lk, keepEnv, Od.v, c, z1, z9, hS, hcn, hx', hxi, hb1, h1, h2, ldx]; exact rfl)] | rw [t_blk]))
          simp [keepEnv, lk]
        rw [t_loop, hs, lp_norm]
        simp only [h1, h2, decide_false, Bool.or_self, Bool.false_or]
        exact hIH
    · exact ih i (by omega) hi
set_option maxHeartbeats 4000000 in
theorem run16 {H : Heap} {Cd F Cn Gr Ag So : DV} {s : Sch} {q : Qry} (hC : ∀ g, vw g 3 Cd = some (s.cols.map Cl.d)) (hl : s.cols.length ≤ 1000) (hq : QV H F Cn Gr Ag So q) : E X 16 [schD Cd s, .agg (qryC F Cn Gr Ag So q.lim)] H = some (.int .i64 (checkV s q), H) := by
  obtain ⟨H1, hH1⟩ : ∃ H1, H1 = H ++ [HO.box 24 (schC Cd s), .box 30 (qryC F Cn Gr Ag So q.lim)] := ⟨_, rfl⟩
  have hq1 : QV H1 F Cn Gr Ag So q := by rw [hH1]; exact hq.ext _
  have hs1 : H1[H.length]? = some (.box 24 (schC Cd s)) := by rw [hH1]; simp
  have hb1 : H1[H.length + 1]? = some (.box 30 (qryC F Cn Gr Ag So q.lim)) := by rw [hH1]; simp [hget]
  have ht1 : H1.take H.length = H := by rw [hH1, List.take_append_of_le_length (Nat.le_refl _)]; exact List.take_length
  have hf1 : ∀ r : Int, fin H H1 [.int .i64 r] = (.int .i64 r, H) := fun r => fin_int ht1
  have e35 := fun g => run35 hC hl g
  by_cases p1 : smayV s = false
  · have hv : checkV s q = 1 := by unfold checkV; rw [if_pos p1]
    rw [hv]
    rw [p1] at e35
    clear hv hs1 hb1 ht1 hq1 hH1 hf1
    obtain ⟨cols, k1, k2, k3, k4⟩ := s
    simp only [schD, schC, qryC] at *
    rw [E_go (X := X) _ b16 _ rfl rfl]; unfold b16; (repeat (first | rw [s_assoc] | rw [s_seq_reg (by simp [go_sem, e35]; exact ⟨rfl, rfl⟩)] | rw [s_cnd (by simp [lk, keepEnv, Od.v, e35]; exact rfl)] | rw [cnd_t] | rw [cnd_f] | rw [s_skip] | rw [s_ret] | rw [s_exit] | rw [C_ret] | rw [C_exit] | rw [C_skip] | rw [blk_ret] | rw [blk_norm] | rw [blk_exit] | rw [blk_exit' (by decide)] | rw [blkT_ret] | rw [blkT_norm] | rw [blkT_exit] | rw [blkT_exit' (by decide)] | rw [s_blk] | rw [s_reg (by simp [go_sem, e35]; exact ⟨rfl, rfl⟩)] | rw [t_cnd (by simp [lk, keepEnv, Od.v, e35]; exact rfl)] | rw [t_blk])); simp [ends_ret, ends_norm, resL, go_sem, fin, fz0, fz1, fzT, fzL, nlt, e35]
  have p1' : smayV s = true := by simpa using p1
  rw [p1'] at e35
  have v1 : vw H1 8 F = some (q.filter.map N.d) := by have := hq1.f []; rwa [List.append_nil] at this
  have v2 := hq.c.vw
  have v3 := hq.g.vw
  have v4 := hq.a
  have v5 := hq.s
  have s2 := hq.c.src
  have s3 := hq.g.src
  have hnf := hq.nf
  have hnc := hq.nc
  have hng := hq.ng
  have hna := hq.na
  have hns := hq.ns
  -- too much
  have early : longV q = true → E X 16 [schD Cd s, .agg (qryC F Cn Gr Ag So q.lim)] H = some (.int .i64 2, H) := by
    intro p2
    unfold longV at p2
    clear hs1 hb1 ht1 hf1 hq1 hq s2 s3
    subst hH1
    obtain ⟨cols, k1, k2, k3, k4⟩ := s
    obtain ⟨fl, co, gr, ag, so, lim⟩ := q
    simp only [schD, schC, qryC] at *
    by_cases c1 : 32 < fl.length
    · have d1 : (32 : Int) < (fl.length : Int) := by omega
      rw [E_go (X := X) _ b16 _ rfl rfl]; unfold b16; (repeat (first | rw [s_assoc] | rw [s_seq_reg (by simp [go_sem, e35, v1, c1, d1]; exact ⟨rfl, rfl⟩)] | rw [s_cnd (by simp [lk, keepEnv, Od.v, e35, v1, c1, d1]; exact rfl)] | rw [cnd_t] | rw [cnd_f] | rw [s_skip] | rw [s_ret] | rw [s_exit] | rw [C_ret] | rw [C_exit] | rw [C_skip] | rw [blk_ret] | rw [blk_norm] | rw [blk_exit] | rw [blk_exit' (by decide)] | rw [blkT_ret] | rw [blkT_norm] | rw [blkT_exit] | rw [blkT_exit' (by decide)] | rw [s_blk] | rw [s_reg (by simp [go_sem, e35, v1, c1, d1]; exact ⟨rfl, rfl⟩)] | rw [t_cnd (by simp [lk, keepEnv, Od.v, e35, v1, c1, d1]; exact rfl)] | rw [t_blk])); simp [ends_ret, ends_norm, resL, go_sem, fin, fz0, fz1, fzT, fzL, nlt, e35, v1, c1, d1]
    have d1 : ¬ (32 : Int) < (fl.length : Int) := by omega
    by_cases c2 : 8 < co.length
    · have d2 : (8 : Int) < (co.length : Int) := by omega
      rw [E_go (X := X) _ b16 _ rfl rfl]; unfold b16; (repeat (first | rw [s_assoc] | rw [s_seq_reg (by simp [go_sem, e35, v1, v2, c1, d1, c2, d2]; exact ⟨rfl, rfl⟩)] | rw [s_cnd (by simp [lk, keepEnv, Od.v, e35, v1, v2, c1, d1, c2, d2]; exact rfl)] | rw [cnd_t] | rw [cnd_f] | rw [s_skip] | rw [s_ret] | rw [s_exit] | rw [C_ret] | rw [C_exit] | rw [C_skip] | rw [blk_ret] | rw [blk_norm] | rw [blk_exit] | rw [blk_exit' (by decide)] | rw [blkT_ret] | rw [blkT_norm] | rw [blkT_exit] | rw [blkT_exit' (by decide)] | rw [s_blk] | rw [s_reg (by simp [go_sem, e35, v1, v2, c1, d1, c2, d2]; exact ⟨rfl, rfl⟩)] | rw [t_cnd (by simp [lk, keepEnv, Od.v, e35, v1, v2, c1, d1, c2, d2]; exact rfl)] | rw [t_blk])); simp [ends_ret, ends_norm, resL, go_sem, fin, fz0, fz1, fzT, fzL, nlt, e35, v1, v2, c1, d1, c2, d2]
    have d2 : ¬ (8 : Int) < (co.length : Int) := by omega
    by_cases c3 : 4 < gr.length
    · have d3 : (4 : Int) < (gr.length : Int) := by omega
      rw [E_go (X := X) _ b16 _ rfl rfl]; unfold b16; (repeat (first | rw [s_assoc] | rw [s_seq_reg (by simp [go_sem, e35, v1, v2, v3, c1, d1, c2, d2, c3, d3]; exact ⟨rfl, rfl⟩)] | rw [s_cnd (by simp [lk, keepEnv, Od.v, e35, v1, v2, v3, c1, d1, c2, d2, c3, d3]; exact rfl)] | rw [cnd_t] | rw [cnd_f] | rw [s_skip] | rw [s_ret] | rw [s_exit] | rw [C_ret] | rw [C_exit] | rw [C_skip] | rw [blk_ret] | rw [blk_norm] | rw [blk_exit] | rw [blk_exit' (by decide)] | rw [blkT_ret] | rw [blkT_norm] | rw [blkT_exit] | rw [blkT_exit' (by decide)] | rw [s_blk] | rw [s_reg (by simp [go_sem, e35, v1, v2, v3, c1, d1, c2, d2, c3, d3]; exact ⟨rfl, rfl⟩)] | rw [t_cnd (by simp [lk, keepEnv, Od.v, e35, v1, v2, v3, c1, d1, c2, d2, c3, d3]; exact rfl)] | rw [t_blk])); simp [ends_ret, ends_norm, resL, go_sem, fin, fz0, fz1, fzT, fzL, nlt, e35, v1, v2, v3, c1, d1, c2, d2, c3, d3]
    have d3 : ¬ (4 : Int) < (gr.length : Int) := by omega
    by_cases c4 : 4 < ag.length
    · have d4 : (4 : Int) < (ag.length : Int) := by omega
      rw [E_go (X := X) _ b16 _ rfl rfl]; unfold b16; (repeat (first | rw [s_assoc] | rw [s_seq_reg (by simp [go_sem, e35, v1, v2, v3, v4, c1, d1, c2, d2, c3, d3, c4, d4]; exact ⟨rfl, rfl⟩)] | rw [s_cnd (by simp [lk, keepEnv, Od.v, e35, v1, v2, v3, v4, c1, d1, c2, d2, c3, d3, c4, d4]; exact rfl)] | rw [cnd_t] | rw [cnd_f] | rw [s_skip] | rw [s_ret] | rw [s_exit] | rw [C_ret] | rw [C_exit] | rw [C_skip] | rw [blk_ret] | rw [blk_norm] | rw [blk_exit] | rw [blk_exit' (by decide)] | rw [blkT_ret] | rw [blkT_norm] | rw [blkT_exit] | rw [blkT_exit' (by decide)] | rw [s_blk] | rw [s_reg (by simp [go_sem, e35, v1, v2, v3, v4, c1, d1, c2, d2, c3, d3, c4, d4]; exact ⟨rfl, rfl⟩)] | rw [t_cnd (by simp [lk, keepEnv, Od.v, e35, v1, v2, v3, v4, c1, d1, c2, d2, c3, d3, c4, d4]; exact rfl)] | rw [t_blk])); simp [ends_ret, ends_norm, resL, go_sem, fin, fz0, fz1, fzT, fzL, nlt, e35, v1, v2, v3, v4, c1, d1, c2, d2, c3, d3, c4, d4]
    have d4 : ¬ (4 : Int) < (ag.length : Int) := by omega
    by_cases c5 : 4 < so.length
    · have d5 : (4 : Int) < (so.length : Int) := by omega
      rw [E_go (X := X) _ b16 _ rfl rfl]; unfold b16; (repeat (first | rw [s_assoc] | rw [s_seq_reg (by simp [go_sem, e35, v1, v2, v3, v4, v5, c1, d1, c2, d2, c3, d3, c4, d4, c5, d5]; exact ⟨rfl, rfl⟩)] | rw [s_cnd (by simp [lk, keepEnv, Od.v, e35, v1, v2, v3, v4, v5, c1, d1, c2, d2, c3, d3, c4, d4, c5, d5]; exact rfl)] | rw [cnd_t] | rw [cnd_f] | rw [s_skip] | rw [s_ret] | rw [s_exit] | rw [C_ret] | rw [C_exit] | rw [C_skip] | rw [blk_ret] | rw [blk_norm] | rw [blk_exit] | rw [blk_exit' (by decide)] | rw [blkT_ret] | rw [blkT_norm] | rw [blkT_exit] | rw [blkT_exit' (by decide)] | rw [s_blk] | rw [s_reg (by simp [go_sem, e35, v1, v2, v3, v4, v5, c1, d1, c2, d2, c3, d3, c4, d4, c5, d5]; exact ⟨rfl, rfl⟩)] | rw [t_cnd (by simp [lk, keepEnv, Od.v, e35, v1, v2, v3, v4, v5, c1, d1, c2, d2, c3, d3, c4, d4, c5, d5]; exact rfl)] | rw [t_blk])); simp [ends_ret, ends_norm, resL, go_sem, fin, fz0, fz1, fzT, fzL, nlt, e35, v1, v2, v3, v4, v5, c1, d1, c2, d2, c3, d3, c4, d4, c5, d5]
    have d5 : ¬ (4 : Int) < (so.length : Int) := by omega
    by_cases c6 : lim < 0
    · rw [E_go (X := X) _ b16 _ rfl rfl]; unfold b16; (repeat (first | rw [s_assoc] | rw [s_seq_reg (by simp [go_sem, e35, v1, v2, v3, v4, v5, c1, d1, c2, d2, c3, d3, c4, d4, c5, d5, c6]; exact ⟨rfl, rfl⟩)] | rw [s_cnd (by simp [lk, keepEnv, Od.v, e35, v1, v2, v3, v4, v5, c1, d1, c2, d2, c3, d3, c4, d4, c5, d5, c6]; exact rfl)] | rw [cnd_t] | rw [cnd_f] | rw [s_skip] | rw [s_ret] | rw [s_exit] | rw [C_ret] | rw [C_exit] | rw [C_skip] | rw [blk_ret] | rw [blk_norm] | rw [blk_exit] | rw [blk_exit' (by decide)] | rw [blkT_ret] | rw [blkT_norm] | rw [blkT_exit] | rw [blkT_exit' (by decide)] | rw [s_blk] | rw [s_reg (by simp [go_sem, e35, v1, v2, v3, v4, v5, c1, d1, c2, d2, c3, d3, c4, d4, c5, d5, c6]; exact ⟨rfl, rfl⟩)] | rw [t_cnd (by simp [lk, keepEnv, Od.v, e35, v1, v2, v3, v4, v5, c1, d1, c2, d2, c3, d3, c4, d4, c5, d5, c6]; exact rfl)] | rw [t_blk])); simp [ends_ret, ends_norm, resL, go_sem, fin, fz0, fz1, fzT, fzL, nlt, e35, v1, v2, v3, v4, v5, c1, d1, c2, d2, c3, d3, c4, d4, c5, d5, c6]
    by_cases c7 : 4096 < lim
    · rw [E_go (X := X) _ b16 _ rfl rfl]; unfold b16; (repeat (first | rw [s_assoc] | rw [s_seq_reg (by simp [go_sem, e35, v1, v2, v3, v4, v5, c1, d1, c2, d2, c3, d3, c4, d4, c5, d5, c6, c7]; exact ⟨rfl, rfl⟩)] | rw [s_cnd (by simp [lk, keepEnv, Od.v, e35, v1, v2, v3, v4, v5, c1, d1, c2, d2, c3, d3, c4, d4, c5, d5, c6, c7]; exact rfl)] | rw [cnd_t] | rw [cnd_f] | rw [s_skip] | rw [s_ret] | rw [s_exit] | rw [C_ret] | rw [C_exit] | rw [C_skip] | rw [blk_ret] | rw [blk_norm] | rw [blk_exit] | rw [blk_exit' (by decide)] | rw [blkT_ret] | rw [blkT_norm] | rw [blkT_exit] | rw [blkT_exit' (by decide)] | rw [s_blk] | rw [s_reg (by simp [go_sem, e35, v1, v2, v3, v4, v5, c1, d1, c2, d2, c3, d3, c4, d4, c5, d5, c6, c7]; exact ⟨rfl, rfl⟩)] | rw [t_cnd (by simp [lk, keepEnv, Od.v, e35, v1, v2, v3, v4, v5, c1, d1, c2, d2, c3, d3, c4, d4, c5, d5, c6, c7]; exact rfl)] | rw [t_blk])); simp [ends_ret, ends_norm, resL, go_sem, fin, fz0, fz1, fzT, fzL, nlt, e35, v1, v2, v3, v4, v5, c1, d1, c2, d2, c3, d3, c4, d4, c5, d5, c6, c7]
    simp [c1, c2, c3, c4, c5, c6, c7] at p2
  by_cases p2 : longV q = true
  · have hv : checkV s q = 2 := by unfold checkV; rw [if_neg p1, if_pos p2]
    rw [hv]
    exact early p2
  clear early
  have hlong : ¬ 32 < q.filter.length ∧ ¬ 8 < q.cols.length ∧ ¬ 4 < q.group.length ∧ ¬ 4 < q.aggs.length ∧ ¬ 4 < q.sort.length ∧ ¬ q.lim < 0 ∧ ¬ 4096 < q.lim := by
    have p2' : longV q = false := by simpa using p2
    unfold longV at p2'
    simp only [Bool.or_eq_false_iff, decide_eq_false_iff_not] at p2'
    exact p2'
  obtain ⟨c1, c2, c3, c4, c5, c6, c7⟩ := hlong
  have d1 : ¬ (32 : Int) < (q.filter.length : Int) := by omega
  have d2 : ¬ (8 : Int) < (q.cols.length : Int) := by omega
  have d3 : ¬ (4 : Int) < (q.group.length : Int) := by omega
  have d4 : ¬ (4 : Int) < (q.aggs.length : Int) := by omega
  have d5 : ¬ (4 : Int) < (q.sort.length : Int) := by omega
  have l0 := loop16_0 hC hs1 hb1 v1 hnf q.filter.length 0 (by omega) (by omega)
  rw [List.drop_zero, show ((0 : Nat) : Int) = 0 from rfl] at l0
  rcases l0 with ⟨ex0, l0, p3⟩ | ⟨l0, p3⟩
  case inr =>
    have hv : checkV s q = filtV s q.filter 0 := by unfold checkV; rw [if_neg p1, if_neg p2, if_pos p3]
    rw [hv]
    generalize filtV s q.filter 0 = r at *
    clear hv hs1 hb1 ht1 hq1 hq p1 p2 p3
    have hf2 := hf1 r
    clear hf1
    obtain ⟨cols, k1, k2, k3, k4⟩ := s
    obtain ⟨fl, co, gr, ag, so, lim⟩ := q
    subst hH1
    simp only [schD, schC, qryC] at *
    rw [E_go (X := X) _ b16 _ rfl rfl]; unfold b16
    (repeat (first | rw [s_assoc] | rw [s_seq_reg (by simp [go_sem, e35, v1, v2, v3, v4, v5, c1, d1, c2, d2, c3, d3, c4, d4, c5, d5, c6, c7]; exact ⟨rfl, rfl⟩)] | rw [s_cnd (by simp [lk, keepEnv, Od.v, e35, v1, v2, v3, v4, v5, c1, d1, c2, d2, c3, d3, c4, d4, c5, d5, c6, c7]; exact rfl)] | rw [cnd_t] | rw [cnd_f] | rw [s_skip] | rw [s_ret] | rw [s_exit] | rw [C_ret] | rw [C_exit] | rw [C_skip] | rw [blk_ret] | rw [blk_norm] | rw [blk_exit] | rw [blk_exit' (by decide)] | rw [blkT_ret] | rw [blkT_norm] | rw [blkT_exit] | rw [blkT_exit' (by decide)] | rw [s_blk] | rw [s_reg (by simp [go_sem, e35, v1, v2, v3, v4, v5, c1, d1, c2, d2, c3, d3, c4, d4, c5, d5, c6, c7]; exact ⟨rfl, rfl⟩)] | rw [t_cnd (by simp [lk, keepEnv, Od.v, e35, v1, v2, v3, v4, v5, c1, d1, c2, d2, c3, d3, c4, d4, c5, d5, c6, c7]; exact rfl)] | rw [t_blk]))
    (try simp only [keepEnv, List.map_cons, List.map_nil, lk, reduceIte, Nat.reduceEqDiff, Nat.zero_ne_one, Nat.one_ne_zero])
    rw [l0]
    (repeat (first | rw [s_assoc] | rw [s_seq_reg (by simp [go_sem]; exact ⟨rfl, rfl⟩)] | rw [s_cnd (by simp [lk, keepEnv, Od.v]; exact rfl)] | rw [cnd_t] | rw [cnd_f] | rw [s_skip] | rw [s_ret] | rw [s_exit] | rw [C_ret] | rw [C_exit] | rw [C_skip] | rw [blk_ret] | rw [blk_norm] | rw [blk_exit] | rw [blk_exit' (by decide)] | rw [blkT_ret] | rw [blkT_norm] | rw [blkT_exit] | rw [blkT_exit' (by decide)] | rw [s_blk] | rw [s_reg (by simp [go_sem]; exact ⟨rfl, rfl⟩)] | rw [t_cnd (by simp [lk, keepEnv, Od.v]; exact rfl)] | rw [t_blk]))
    rw [ends_ret]
    simp [resL, lk, keepEnv, hf2]
  -- the columns, put together
  obtain ⟨d8, h8, a8, g8⟩ := (Gro.zero (T := 3) (sz := 1) (H := H1)).app 8 (q.cols.map intD) (by simp; omega)
  rw [List.nil_append] at g8
  obtain ⟨d9, h9, a9, g9⟩ := g8.app 8 (q.group.map intD) (by simp; omega)
  rw [← List.map_append] at g9
  have t8 : kpo true H1 (d8, h8) = some (d8, h8) := by unfold kpo; rw [if_pos ⟨rfl, g8.1⟩]
  have w8 := g8.vw
  have w9 := g9.vw
  have hs9 := pre_get g9.1 hs1
  have hb9 := pre_get g9.1 hb1
  have hb8 := pre_get g8.1 hb1
  have ht9 : h9.take H.length = H := by
    have h5 : h9.take H.length = (h9.take H1.length).take H.length := by
      rw [List.take_take, Nat.min_eq_left]
      rw [hH1]; simp only [List.length_append]; omega
    rw [h5, g9.1, ht1]
  have hf9 : ∀ r : Int, fin H h9 [.int .i64 r] = (.int .i64 r, H) := fun r => fin_int ht9
  have l1 := loop16_1 (b1 := H.length + 1) hC hs9 w9 (by rw [List.length_append]; omega) (q.cols ++ q.group).length 0 (by omega) (by omega)
  rw [List.drop_zero, show ((0 : Nat) : Int) = 0 from rfl] at l1
  have hvn : vw H1 1 .nils = some [] := rfl
  have hfr8 : (XOp.app 3 1 8 (.c .nils) (.t 75)).frd = fun _ => true := rfl
  rcases l1 with ⟨ex1, l1, p4⟩ | ⟨l1, p4⟩
  case inr =>
    have hv : checkV s q = 3 := by unfold checkV; rw [if_neg p1, if_neg p2, if_neg (by omega), if_pos p4]
    rw [hv]
    clear hv hs1 ht1 hq1 hq p1 p2 p3 p4 hs9 hb9 ht9 g8 g9
    have hf2 := hf9 3
    clear hf9 hf1
    obtain ⟨cols, k1, k2, k3, k4⟩ := s
    obtain ⟨fl, co, gr, ag, so, lim⟩ := q
    subst hH1
    simp only [schD, schC, qryC] at *
    rw [E_go (X := X) _ b16 _ rfl rfl]; unfold b16
    (repeat (first | rw [s_assoc] | rw [s_seq_reg (by simp [go_sem, e35, v1, v2, v3, v4, v5, c1, d1, c2, d2, c3, d3, c4, d4, c5, d5, c6, c7]; exact ⟨rfl, rfl⟩)] | rw [s_cnd (by simp [lk, keepEnv, Od.v, e35, v1, v2, v3, v4, v5, c1, d1, c2, d2, c3, d3, c4, d4, c5, d5, c6, c7]; exact rfl)] | rw [cnd_t] | rw [cnd_f] | rw [s_skip] | rw [s_ret] | rw [s_exit] | rw [C_ret] | rw [C_exit] | rw [C_skip] | rw [blk_ret] | rw [blk_norm] | rw [blk_exit] | rw [blk_exit' (by decide)] | rw [blkT_ret] | rw [blkT_norm] | rw [blkT_exit] | rw [blkT_exit' (by decide)] | rw [s_blk] | rw [s_reg (by simp [go_sem, e35, v1, v2, v3, v4, v5, c1, d1, c2, d2, c3, d3, c4, d4, c5, d5, c6, c7]; exact ⟨rfl, rfl⟩)] | rw [t_cnd (by simp [lk, keepEnv, Od.v, e35, v1, v2, v3, v4, v5, c1, d1, c2, d2, c3, d3, c4, d4, c5, d5, c6, c7]; exact rfl)] | rw [t_blk]))
    (try simp only [keepEnv, List.map_cons, List.map_nil, lk, reduceIte, Nat.reduceEqDiff, Nat.zero_ne_one, Nat.one_ne_zero])
    rw [l0]
    (repeat (first | rw [s_assoc] | rw [s_seq_reg (by simp [go_sem, hb1, hb8, hvn, s2, s3, a8, t8, w8, a9, ldx]; exact ⟨rfl, rfl⟩)] | rw [s_cnd (by simp [lk, keepEnv, Od.v, hb1, hb8, hvn, s2, s3, a8, t8, w8, a9, ldx]; exact rfl)] | rw [cnd_t] | rw [cnd_f] | rw [s_skip] | rw [s_ret] | rw [s_exit] | rw [C_ret] | rw [C_exit] | rw [C_skip] | rw [blk_ret] | rw [blk_norm] | rw [blk_exit] | rw [blk_exit' (by decide)] | rw [blkT_ret] | rw [blkT_norm] | rw [blkT_exit] | rw [blkT_exit' (by decide)] | rw [s_blk] | rw [s_reg (by simp [go_sem, hb1, hb8, hvn, s2, s3, a8, t8, w8, a9, ldx]; exact ⟨rfl, rfl⟩)] | rw [t_cnd (by simp [lk, keepEnv, Od.v, hb1, hb8, hvn, s2, s3, a8, t8, w8, a9, ldx]; exact rfl)] | rw [t_blk]))
    (try simp only [keepEnv, List.map_cons, List.map_nil, lk, reduceIte, Nat.reduceEqDiff, Nat.zero_ne_one, Nat.one_ne_zero])
    rw [l1]
    (repeat (first | rw [s_assoc] | rw [s_seq_reg (by simp [go_sem]; exact ⟨rfl, rfl⟩)] | rw [s_cnd (by simp [lk, keepEnv, Od.v]; exact rfl)] | rw [cnd_t] | rw [cnd_f] | rw [s_skip] | rw [s_ret] | rw [s_exit] | rw [C_ret] | rw [C_exit] | rw [C_skip] | rw [blk_ret] | rw [blk_norm] | rw [blk_exit] | rw [blk_exit' (by decide)] | rw [blkT_ret] | rw [blkT_norm] | rw [blkT_exit] | rw [blkT_exit' (by decide)] | rw [s_blk] | rw [s_reg (by simp [go_sem]; exact ⟨rfl, rfl⟩)] | rw [t_cnd (by simp [lk, keepEnv, Od.v]; exact rfl)] | rw [t_blk]))
    rw [ends_ret]
    simp [resL, lk, keepEnv, hf2]
  have l2 := loop16_2 hC hs9 hb9 v4 hna q.aggs.length 0 (by omega) (by omega)
  rw [List.drop_zero, show ((0 : Nat) : Int) = 0 from rfl] at l2
  rcases l2 with ⟨ex2, l2, p5⟩ | ⟨l2, p5⟩
  case inr =>
    have hv : checkV s q = aggsV s q.aggs := by unfold checkV; rw [if_neg p1, if_neg p2, if_neg (by omega), if_neg (by rw [p4]; simp), if_pos p5]
    rw [hv]
    generalize aggsV s q.aggs = r at *
    clear hv hs1 ht1 hq1 hq p1 p2 p3 p4 p5 hs9 hb9 ht9 g8 g9
    have hf2 := hf9 r
    clear hf9 hf1
    obtain ⟨cols, k1, k2, k3, k4⟩ := s
    obtain ⟨fl, co, gr, ag, so, lim⟩ := q
    subst hH1
    simp only [schD, schC, qryC] at *
    rw [E_go (X := X) _ b16 _ rfl rfl]; unfold b16
    (repeat (first | rw [s_assoc] | rw [s_seq_reg (by simp [go_sem, e35, v1, v2, v3, v4, v5, c1, d1, c2, d2, c3, d3, c4, d4, c5, d5, c6, c7]; exact ⟨rfl, rfl⟩)] | rw [s_cnd (by simp [lk, keepEnv, Od.v, e35, v1, v2, v3, v4, v5, c1, d1, c2, d2, c3, d3, c4, d4, c5, d5, c6, c7]; exact rfl)] | rw [cnd_t] | rw [cnd_f] | rw [s_skip] | rw [s_ret] | rw [s_exit] | rw [C_ret] | rw [C_exit] | rw [C_skip] | rw [blk_ret] | rw [blk_norm] | rw [blk_exit] | rw [blk_exit' (by decide)] | rw [blkT_ret] | rw [blkT_norm] | rw [blkT_exit] | rw [blkT_exit' (by decide)] | rw [s_blk] | rw [s_reg (by simp [go_sem, e35, v1, v2, v3, v4, v5, c1, d1, c2, d2, c3, d3, c4, d4, c5, d5, c6, c7]; exact ⟨rfl, rfl⟩)] | rw [t_cnd (by simp [lk, keepEnv, Od.v, e35, v1, v2, v3, v4, v5, c1, d1, c2, d2, c3, d3, c4, d4, c5, d5, c6, c7]; exact rfl)] | rw [t_blk]))
    (try simp only [keepEnv, List.map_cons, List.map_nil, lk, reduceIte, Nat.reduceEqDiff, Nat.zero_ne_one, Nat.one_ne_zero])
    rw [l0]
    (repeat (first | rw [s_assoc] | rw [s_seq_reg (by simp [go_sem, hb1, hb8, hvn, s2, s3, a8, t8, w8, a9, ldx]; exact ⟨rfl, rfl⟩)] | rw [s_cnd (by simp [lk, keepEnv, Od.v, hb1, hb8, hvn, s2, s3, a8, t8, w8, a9, ldx]; exact rfl)] | rw [cnd_t] | rw [cnd_f] | rw [s_skip] | rw [s_ret] | rw [s_exit] | rw [C_ret] | rw [C_exit] | rw [C_skip] | rw [blk_ret] | rw [blk_norm] | rw [blk_exit] | rw [blk_exit' (by decide)] | rw [blkT_ret] | rw [blkT_norm] | rw [blkT_exit] | rw [blkT_exit' (by decide)] | rw [s_blk] | rw [s_reg (by simp [go_sem, hb1, hb8, hvn, s2, s3, a8, t8, w8, a9, ldx]; exact ⟨rfl, rfl⟩)] | rw [t_cnd (by simp [lk, keepEnv, Od.v, hb1, hb8, hvn, s2, s3, a8, t8, w8, a9, ldx]; exact rfl)] | rw [t_blk]))
    (try simp only [keepEnv, List.map_cons, List.map_nil, lk, reduceIte, Nat.reduceEqDiff, Nat.zero_ne_one, Nat.one_ne_zero])
    rw [l1]
    (repeat (first | rw [s_assoc] | rw [s_seq_reg (by simp [go_sem]; exact ⟨rfl, rfl⟩)] | rw [s_cnd (by simp [lk, keepEnv, Od.v]; exact rfl)] | rw [cnd_t] | rw [cnd_f] | rw [s_skip] | rw [s_ret] | rw [s_exit] | rw [C_ret] | rw [C_exit] | rw [C_skip] | rw [blk_ret] | rw [blk_norm] | rw [blk_exit] | rw [blk_exit' (by decide)] | rw [blkT_ret] | rw [blkT_norm] | rw [blkT_exit] | rw [blkT_exit' (by decide)] | rw [s_blk] | rw [s_reg (by simp [go_sem]; exact ⟨rfl, rfl⟩)] | rw [t_cnd (by simp [lk, keepEnv, Od.v]; exact rfl)] | rw [t_blk]))
    (try simp only [keepEnv, List.map_cons, List.map_nil, lk, reduceIte, Nat.reduceEqDiff, Nat.zero_ne_one, Nat.one_ne_zero])
    rw [l2]
    (repeat (first | rw [s_assoc] | rw [s_seq_reg (by simp [go_sem]; exact ⟨rfl, rfl⟩)] | rw [s_cnd (by simp [lk, keepEnv, Od.v]; exact rfl)] | rw [cnd_t] | rw [cnd_f] | rw [s_skip] | rw [s_ret] | rw [s_exit] | rw [C_ret] | rw [C_exit] | rw [C_skip] | rw [blk_ret] | rw [blk_norm] | rw [blk_exit] | rw [blk_exit' (by decide)] | rw [blkT_ret] | rw [blkT_norm] | rw [blkT_exit] | rw [blkT_exit' (by decide)] | rw [s_blk] | rw [s_reg (by simp [go_sem]; exact ⟨rfl, rfl⟩)] | rw [t_cnd (by simp [lk, keepEnv, Od.v]; exact rfl)] | rw [t_blk]))
    rw [ends_ret]
    simp [resL, lk, keepEnv, hf2]
  obtain ⟨n, hn⟩ : ∃ n, n = q.group.length + q.aggs.length := ⟨_, rfl⟩
  have z9 : IntKind.i64.wrap ((q.group.length : Int) + (q.aggs.length : Int)) = (n : Int) := (by rw [wrap64 _ (by omega) (by omega)]; omega)
  by_cases p6 : decide (0 < q.group.length + q.aggs.length) = decide (0 < q.cols.length)
  · have hv : checkV s q = 5 := by unfold checkV; rw [if_neg p1, if_neg p2, if_neg (by omega), if_neg (by rw [p4]; simp), if_neg (by omega), if_pos p6]
    rw [hv]
    have p6' : (0 < q.cols.length ∧ 0 < n) ∨ (q.cols.length = 0 ∧ n = 0) := by
      rw [← hn] at p6
      by_cases k1 : 0 < n
      · by_cases k2 : 0 < q.cols.length
        · exact .inl ⟨k2, k1⟩
        · rw [decide_eq_true k1, decide_eq_false k2] at p6; cases p6
      · by_cases k2 : 0 < q.cols.length
        · rw [decide_eq_false k1, decide_eq_true k2] at p6; cases p6
        · exact .inr ⟨by omega, by omega⟩
    clear hv hs1 ht1 hq1 hq p1 p2 p3 p4 p5 p6 hs9 ht9 g8 g9
    have hf2 := hf9 5
    clear hf9 hf1
    obtain ⟨cols, k1, k2, k3, k4⟩ := s
    obtain ⟨fl, co, gr, ag, so, lim⟩ := q
    subst hH1
    simp only [schD, schC, qryC] at *
    rcases p6' with ⟨q1, q2⟩ | ⟨q1, q2⟩
    · have q1' : (0 : Int) < (co.length : Int) := by omega
      have q2' : (0 : Int) < (n : Int) := by omega
      clear hn
      rw [E_go (X := X) _ b16 _ rfl rfl]; unfold b16
      (repeat (first | rw [s_assoc] | rw [s_seq_reg (by simp [go_sem, e35, v1, v2, v3, v4, v5, c1, d1, c2, d2, c3, d3, c4, d4, c5, d5, c6, c7]; exact ⟨rfl, rfl⟩)] | rw [s_cnd (by simp [lk, keepEnv, Od.v, e35, v1, v2, v3, v4, v5, c1, d1, c2, d2, c3, d3, c4, d4, c5, d5, c6, c7]; exact rfl)] | rw [cnd_t] | rw [cnd_f] | rw [s_skip] | rw [s_ret] | rw [s_exit] | rw [C_ret] | rw [C_exit] | rw [C_skip] | rw [blk_ret] | rw [blk_norm] | rw [blk_exit] | rw [blk_exit' (by decide)] | rw [blkT_ret] | rw [blkT_norm] | rw [blkT_exit] | rw [blkT_exit' (by decide)] | rw [s_blk] | rw [s_reg (by simp [go_sem, e35, v1, v2, v3, v4, v5, c1, d1, c2, d2, c3, d3, c4, d4, c5, d5, c6, c7]; exact ⟨rfl, rfl⟩)] | rw [t_cnd (by simp [lk, keepEnv, Od.v, e35, v1, v2, v3, v4, v5, c1, d1, c2, d2, c3, d3, c4, d4, c5, d5, c6, c7]; exact rfl)] | rw [t_blk]))
      (try simp only [keepEnv, List.map_cons, List.map_nil, lk, reduceIte, Nat.reduceEqDiff, Nat.zero_ne_one, Nat.one_ne_zero])
      rw [l0]
      (repeat (first | rw [s_assoc] | rw [s_seq_reg (by simp [go_sem, hb1, hb8, hvn, s2, s3, a8, t8, w8, a9, ldx]; exact ⟨rfl, rfl⟩)] | rw [s_cnd (by simp [lk, keepEnv, Od.v, hb1, hb8, hvn, s2, s3, a8, t8, w8, a9, ldx]; exact rfl)] | rw [cnd_t] | rw [cnd_f] | rw [s_skip] | rw [s_ret] | rw [s_exit] | rw [C_ret] | rw [C_exit] | rw [C_skip] | rw [blk_ret] | rw [blk_norm] | rw [blk_exit] | rw [blk_exit' (by decide)] | rw [blkT_ret] | rw [blkT_norm] | rw [blkT_exit] | rw [blkT_exit' (by decide)] | rw [s_blk] | rw [s_reg (by simp [go_sem, hb1, hb8, hvn, s2, s3, a8, t8, w8, a9, ldx]; exact ⟨rfl, rfl⟩)] | rw [t_cnd (by simp [lk, keepEnv, Od.v, hb1, hb8, hvn, s2, s3, a8, t8, w8, a9, ldx]; exact rfl)] | rw [t_blk]))
      (try simp only [keepEnv, List.map_cons, List.map_nil, lk, reduceIte, Nat.reduceEqDiff, Nat.zero_ne_one, Nat.one_ne_zero])
      rw [l1]
      (repeat (first | rw [s_assoc] | rw [s_seq_reg (by simp [go_sem]; exact ⟨rfl, rfl⟩)] | rw [s_cnd (by simp [lk, keepEnv, Od.v]; exact rfl)] | rw [cnd_t] | rw [cnd_f] | rw [s_skip] | rw [s_ret] | rw [s_exit] | rw [C_ret] | rw [C_exit] | rw [C_skip] | rw [blk_ret] | rw [blk_norm] | rw [blk_exit] | rw [blk_exit' (by decide)] | rw [blkT_ret] | rw [blkT_norm] | rw [blkT_exit] | rw [blkT_exit' (by decide)] | rw [s_blk] | rw [s_reg (by simp [go_sem]; exact ⟨rfl, rfl⟩)] | rw [t_cnd (by simp [lk, keepEnv, Od.v]; exact rfl)] | rw [t_blk]))
      (try simp only [keepEnv, List.map_cons, List.map_nil, lk, reduceIte, Nat.reduceEqDiff, Nat.zero_ne_one, Nat.one_ne_zero])
      rw [l2]
      (repeat (first | rw [s_assoc] | rw [s_seq_reg (by simp [go_sem, hb9, v2, v3, v4, z9, q1, q2, q1', q2', ldx]; exact ⟨rfl, rfl⟩)] | rw [s_cnd (by simp [lk, keepEnv, Od.v, hb9, v2, v3, v4, z9, q1, q2, q1', q2', ldx]; exact rfl)] | rw [cnd_t] | rw [cnd_f] | rw [s_skip] | rw [s_ret] | rw [s_exit] | rw [C_ret] | rw [C_exit] | rw [C_skip] | rw [blk_ret] | rw [blk_norm] | rw [blk_exit] | rw [blk_exit' (by decide)] | rw [blkT_ret] | rw [blkT_norm] | rw [blkT_exit] | rw [blkT_exit' (by decide)] | rw [s_blk] | rw [s_reg (by simp [go_sem, hb9, v2, v3, v4, z9, q1, q2, q1', q2', ldx]; exact ⟨rfl, rfl⟩)] | rw [t_cnd (by simp [lk, keepEnv, Od.v, hb9, v2, v3, v4, z9, q1, q2, q1', q2', ldx]; exact rfl)] | rw [t_blk]))
      rw [ends_ret]
      simp [resL, lk, keepEnv, hf2]
    · subst q2
      have e0 : (co.length : Int) = 0 := by omega
      have e1 : (gr.length : Int) + (ag.length : Int) = 0 := by omega
      clear hn
      rw [E_go (X := X) _ b16 _ rfl rfl]; unfold b16
      (repeat (first | rw [s_assoc] | rw [s_seq_reg (by simp [go_sem, e35, v1, v2, v3, v4, v5, c1, d1, c2, d2, c3, d3, c4, d4, c5, d5, c6, c7]; exact ⟨rfl, rfl⟩)] | rw [s_cnd (by simp [lk, keepEnv, Od.v, e35, v1, v2, v3, v4, v5, c1, d1, c2, d2, c3, d3, c4, d4, c5, d5, c6, c7]; exact rfl)] | rw [cnd_t] | rw [cnd_f] | rw [s_skip] | rw [s_ret] | rw [s_exit] | rw [C_ret] | rw [C_exit] | rw [C_skip] | rw [blk_ret] | rw [blk_norm] | rw [blk_exit] | rw [blk_exit' (by decide)] | rw [blkT_ret] | rw [blkT_norm] | rw [blkT_exit] | rw [blkT_exit' (by decide)] | rw [s_blk] | rw [s_reg (by simp [go_sem, e35, v1, v2, v3, v4, v5, c1, d1, c2, d2, c3, d3, c4, d4, c5, d5, c6, c7]; exact ⟨rfl, rfl⟩)] | rw [t_cnd (by simp [lk, keepEnv, Od.v, e35, v1, v2, v3, v4, v5, c1, d1, c2, d2, c3, d3, c4, d4, c5, d5, c6, c7]; exact rfl)] | rw [t_blk]))
      (try simp only [keepEnv, List.map_cons, List.map_nil, lk, reduceIte, Nat.reduceEqDiff, Nat.zero_ne_one, Nat.one_ne_zero])
      rw [l0]
      (repeat (first | rw [s_assoc] | rw [s_seq_reg (by simp [go_sem, hb1, hb8, hvn, s2, s3, a8, t8, w8, a9, ldx]; exact ⟨rfl, rfl⟩)] | rw [s_cnd (by simp [lk, keepEnv, Od.v, hb1, hb8, hvn, s2, s3, a8, t8, w8, a9, ldx]; exact rfl)] | rw [cnd_t] | rw [cnd_f] | rw [s_skip] | rw [s_ret] | rw [s_exit] | rw [C_ret] | rw [C_exit] | rw [C_skip] | rw [blk_ret] | rw [blk_norm] | rw [blk_exit] | rw [blk_exit' (by decide)] | rw [blkT_ret] | rw [blkT_norm] | rw [blkT_exit] | rw [blkT_exit' (by decide)] | rw [s_blk] | rw [s_reg (by simp [go_sem, hb1, hb8, hvn, s2, s3, a8, t8, w8, a9, ldx]; exact ⟨rfl, rfl⟩)] | rw [t_cnd (by simp [lk, keepEnv, Od.v, hb1, hb8, hvn, s2, s3, a8, t8, w8, a9, ldx]; exact rfl)] | rw [t_blk]))
      (try simp only [keepEnv, List.map_cons, List.map_nil, lk, reduceIte, Nat.reduceEqDiff, Nat.zero_ne_one, Nat.one_ne_zero])
      rw [l1]
      (repeat (first | rw [s_assoc] | rw [s_seq_reg (by simp [go_sem]; exact ⟨rfl, rfl⟩)] | rw [s_cnd (by simp [lk, keepEnv, Od.v]; exact rfl)] | rw [cnd_t] | rw [cnd_f] | rw [s_skip] | rw [s_ret] | rw [s_exit] | rw [C_ret] | rw [C_exit] | rw [C_skip] | rw [blk_ret] | rw [blk_norm] | rw [blk_exit] | rw [blk_exit' (by decide)] | rw [blkT_ret] | rw [blkT_norm] | rw [blkT_exit] | rw [blkT_exit' (by decide)] | rw [s_blk] | rw [s_reg (by simp [go_sem]; exact ⟨rfl, rfl⟩)] | rw [t_cnd (by simp [lk, keepEnv, Od.v]; exact rfl)] | rw [t_blk]))
      (try simp only [keepEnv, List.map_cons, List.map_nil, lk, reduceIte, Nat.reduceEqDiff, Nat.zero_ne_one, Nat.one_ne_zero])
      rw [l2]
      (repeat (first | rw [s_assoc] | rw [s_seq_reg (by simp [go_sem, hb9, v2, v3, v4, z9, q1, e0, ldx]; exact ⟨rfl, rfl⟩)] | rw [s_cnd (by simp [lk, keepEnv, Od.v, hb9, v2, v3, v4, z9, q1, e0, ldx]; exact rfl)] | rw [cnd_t] | rw [cnd_f] | rw [s_skip] | rw [s_ret] | rw [s_exit] | rw [C_ret] | rw [C_exit] | rw [C_skip] | rw [blk_ret] | rw [blk_norm] | rw [blk_exit] | rw [blk_exit' (by decide)] | rw [blkT_ret] | rw [blkT_norm] | rw [blkT_exit] | rw [blkT_exit' (by decide)] | rw [s_blk] | rw [s_reg (by simp [go_sem, hb9, v2, v3, v4, z9, q1, e0, ldx]; exact ⟨rfl, rfl⟩)] | rw [t_cnd (by simp [lk, keepEnv, Od.v, hb9, v2, v3, v4, z9, q1, e0, ldx]; exact rfl)] | rw [t_blk]))
      rw [ends_ret]
      simp [resL, lk, keepEnv, hf2]
  have p6' : (0 < q.cols.length ∧ n = 0) ∨ (q.cols.length = 0 ∧ 0 < n) := by
    rw [← hn] at p6
    by_cases k1 : 0 < n
    · by_cases k2 : 0 < q.cols.length
      · rw [decide_eq_true k1, decide_eq_true k2] at p6; exact absurd rfl p6
      · exact .inr ⟨by omega, k1⟩
    · by_cases k2 : 0 < q.cols.length
      · exact .inl ⟨k2, by omega⟩
      · rw [decide_eq_false k1, decide_eq_false k2] at p6; exact absurd rfl p6
  have hon : outsN q = q.cols.length + n := by unfold outsN; omega
  have l3 := loop16_3 (n := n) hb9 v5 v2 hns hnc (by omega) q.sort.length 0 (by omega) (by omega)
  rw [List.drop_zero, show ((0 : Nat) : Int) = 0 from rfl, ← hon] at l3
  have hv : checkV s q = if q.sort.any (fun x => decide (x.1 < 0) || decide ((outsN q : Int) ≤ x.1)) = true then 3 else 0 := by
    unfold checkV; rw [if_neg p1, if_neg p2, if_neg (by omega), if_neg (by rw [p4]; simp), if_neg (by omega), if_neg p6]
  rw [hv]
  generalize q.sort.any (fun x => decide (x.1 < 0) || decide ((outsN q : Int) ≤ x.1)) = P at *
  clear hv hs1 ht1 hq1 hq p1 p2 p3 p4 p5 p6 hs9 ht9 g8 g9 hon hf1
  obtain ⟨cols, k1, k2, k3, k4⟩ := s
  obtain ⟨fl, co, gr, ag, so, lim⟩ := q
  subst hH1
  simp only [schD, schC, qryC] at *
  rcases p6' with ⟨q1, q2⟩ | ⟨q1, q2⟩
  · have q1' : (0 : Int) < (co.length : Int) := by omega
    have q3 : ((co.length : Int) == 0) = false := by simp only [beq_eq_false_iff_ne]; omega
    subst q2
    clear hn
    rw [show ((0 : Nat) : Int) = 0 from rfl] at z9 l3
    rcases l3 with ⟨ex3, l3, rfl⟩ | ⟨l3, rfl⟩
    · rw [E_go (X := X) _ b16 _ rfl rfl]; unfold b16
      (repeat (first | rw [s_assoc] | rw [s_seq_reg (by simp [go_sem, e35, v1, v2, v3, v4, v5, c1, d1, c2, d2, c3, d3, c4, d4, c5, d5, c6, c7]; exact ⟨rfl, rfl⟩)] | rw [s_cnd (by simp [lk, keepEnv, Od.v, e35, v1, v2, v3, v4, v5, c1, d1, c2, d2, c3, d3, c4, d4, c5, d5, c6, c7]; exact rfl)] | rw [cnd_t] | rw [cnd_f] | rw [s_skip] | rw [s_ret] | rw [s_exit] | rw [C_ret] | rw [C_exit] | rw [C_skip] | rw [blk_ret] | rw [blk_norm] | rw [blk_exit] | rw [blk_exit' (by decide)] | rw [blkT_ret] | rw [blkT_norm] | rw [blkT_exit] | rw [blkT_exit' (by decide)] | rw [s_blk] | rw [s_reg (by simp [go_sem, e35, v1, v2, v3, v4, v5, c1, d1, c2, d2, c3, d3, c4, d4, c5, d5, c6, c7]; exact ⟨rfl, rfl⟩)] | rw [t_cnd (by simp [lk, keepEnv, Od.v, e35, v1, v2, v3, v4, v5, c1, d1, c2, d2, c3, d3, c4, d4, c5, d5, c6, c7]; exact rfl)] | rw [t_blk]))
      (try simp only [keepEnv, List.map_cons, List.map_nil, lk, reduceIte, Nat.reduceEqDiff, Nat.zero_ne_one, Nat.one_ne_zero])
      rw [l0]
      (repeat (first | rw [s_assoc] | rw [s_seq_reg (by simp [go_sem, hb1, hb8, hvn, s2, s3, a8, t8, w8, a9, ldx]; exact ⟨rfl, rfl⟩)] | rw [s_cnd (by simp [lk, keepEnv, Od.v, hb1, hb8, hvn, s2, s3, a8, t8, w8, a9, ldx]; exact rfl)] | rw [cnd_t] | rw [cnd_f] | rw [s_skip] | rw [s_ret] | rw [s_exit] | rw [C_ret] | rw [C_exit] | rw [C_skip] | rw [blk_ret] | rw [blk_norm] | rw [blk_exit] | rw [blk_exit' (by decide)] | rw [blkT_ret] | rw [blkT_norm] | rw [blkT_exit] | rw [blkT_exit' (by decide)] | rw [s_blk] | rw [s_reg (by simp [go_sem, hb1, hb8, hvn, s2, s3, a8, t8, w8, a9, ldx]; exact ⟨rfl, rfl⟩)] | rw [t_cnd (by simp [lk, keepEnv, Od.v, hb1, hb8, hvn, s2, s3, a8, t8, w8, a9, ldx]; exact rfl)] | rw [t_blk]))
      (try simp only [keepEnv, List.map_cons, List.map_nil, lk, reduceIte, Nat.reduceEqDiff, Nat.zero_ne_one, Nat.one_ne_zero])
      rw [l1]
      (repeat (first | rw [s_assoc] | rw [s_seq_reg (by simp [go_sem]; exact ⟨rfl, rfl⟩)] | rw [s_cnd (by simp [lk, keepEnv, Od.v]; exact rfl)] | rw [cnd_t] | rw [cnd_f] | rw [s_skip] | rw [s_ret] | rw [s_exit] | rw [C_ret] | rw [C_exit] | rw [C_skip] | rw [blk_ret] | rw [blk_norm] | rw [blk_exit] | rw [blk_exit' (by decide)] | rw [blkT_ret] | rw [blkT_norm] | rw [blkT_exit] | rw [blkT_exit' (by decide)] | rw [s_blk] | rw [s_reg (by simp [go_sem]; exact ⟨rfl, rfl⟩)] | rw [t_cnd (by simp [lk, keepEnv, Od.v]; exact rfl)] | rw [t_blk]))
      (try simp only [keepEnv, List.map_cons, List.map_nil, lk, reduceIte, Nat.reduceEqDiff, Nat.zero_ne_one, Nat.one_ne_zero])
      rw [l2]
      (repeat (first | rw [s_assoc] | rw [s_seq_reg (by simp [go_sem, hb9, v2, v3, v4, z9, q1, q1', q3, ldx]; exact ⟨rfl, rfl⟩)] | rw [s_cnd (by simp [lk, keepEnv, Od.v, hb9, v2, v3, v4, z9, q1, q1', q3, ldx]; exact rfl)] | rw [cnd_t] | rw [cnd_f] | rw [s_skip] | rw [s_ret] | rw [s_exit] | rw [C_ret] | rw [C_exit] | rw [C_skip] | rw [blk_ret] | rw [blk_norm] | rw [blk_exit] | rw [blk_exit' (by decide)] | rw [blkT_ret] | rw [blkT_norm] | rw [blkT_exit] | rw [blkT_exit' (by decide)] | rw [s_blk] | rw [s_reg (by simp [go_sem, hb9, v2, v3, v4, z9, q1, q1', q3, ldx]; exact ⟨rfl, rfl⟩)] | rw [t_cnd (by simp [lk, keepEnv, Od.v, hb9, v2, v3, v4, z9, q1, q1', q3, ldx]; exact rfl)] | rw [t_blk]))
      (try simp only [keepEnv, List.map_cons, List.map_nil, lk, reduceIte, Nat.reduceEqDiff, Nat.zero_ne_one, Nat.one_ne_zero])
      rw [l3]
      (repeat (first | rw [s_assoc] | rw [s_seq_reg (by simp [go_sem]; exact ⟨rfl, rfl⟩)] | rw [s_cnd (by simp [lk, keepEnv, Od.v]; exact rfl)] | rw [cnd_t] | rw [cnd_f] | rw [s_skip] | rw [s_ret] | rw [s_exit] | rw [C_ret] | rw [C_exit] | rw [C_skip] | rw [blk_ret] | rw [blk_norm] | rw [blk_exit] | rw [blk_exit' (by decide)] | rw [blkT_ret] | rw [blkT_norm] | rw [blkT_exit] | rw [blkT_exit' (by decide)] | rw [s_blk] | rw [s_reg (by simp [go_sem]; exact ⟨rfl, rfl⟩)] | rw [t_cnd (by simp [lk, keepEnv, Od.v]; exact rfl)] | rw [t_blk]))
      rw [ends_ret]
      simp [resL, lk, keepEnv, hf9]
    · rw [E_go (X := X) _ b16 _ rfl rfl]; unfold b16
      (repeat (first | rw [s_assoc] | rw [s_seq_reg (by simp [go_sem, e35, v1, v2, v3, v4, v5, c1, d1, c2, d2, c3, d3, c4, d4, c5, d5, c6, c7]; exact ⟨rfl, rfl⟩)] | rw [s_cnd (by simp [lk, keepEnv, Od.v, e35, v1, v2, v3, v4, v5, c1, d1, c2, d2, c3, d3, c4, d4, c5, d5, c6, c7]; exact rfl)] | rw [cnd_t] | rw [cnd_f] | rw [s_skip] | rw [s_ret] | rw [s_exit] | rw [C_ret] | rw [C_exit] | rw [C_skip] | rw [blk_ret] | rw [blk_norm] | rw [blk_exit] | rw [blk_exit' (by decide)] | rw [blkT_ret] | rw [blkT_norm] | rw [blkT_exit] | rw [blkT_exit' (by decide)] | rw [s_blk] | rw [s_reg (by simp [go_sem, e35, v1, v2, v3, v4, v5, c1, d1, c2, d2, c3, d3, c4, d4, c5, d5, c6, c7]; exact ⟨rfl, rfl⟩)] | rw [t_cnd (by simp [lk, keepEnv, Od.v, e35, v1, v2, v3, v4, v5, c1, d1, c2, d2, c3, d3, c4, d4, c5, d5, c6, c7]; exact rfl)] | rw [t_blk]))
      (try simp only [keepEnv, List.map_cons, List.map_nil, lk, reduceIte, Nat.reduceEqDiff, Nat.zero_ne_one, Nat.one_ne_zero])
      rw [l0]
      (repeat (first | rw [s_assoc] | rw [s_seq_reg (by simp [go_sem, hb1, hb8, hvn, s2, s3, a8, t8, w8, a9, ldx]; exact ⟨rfl, rfl⟩)] | rw [s_cnd (by simp [lk, keepEnv, Od.v, hb1, hb8, hvn, s2, s3, a8, t8, w8, a9, ldx]; exact rfl)] | rw [cnd_t] | rw [cnd_f] | rw [s_skip] | rw [s_ret] | rw [s_exit] | rw [C_ret] | rw [C_exit] | rw [C_skip] | rw [blk_ret] | rw [blk_norm] | rw [blk_exit] | rw [blk_exit' (by decide)] | rw [blkT_ret] | rw [blkT_norm] | rw [blkT_exit] | rw [blkT_exit' (by decide)] | rw [s_blk] | rw [s_reg (by simp [go_sem, hb1, hb8, hvn, s2, s3, a8, t8, w8, a9, ldx]; exact ⟨rfl, rfl⟩)] | rw [t_cnd (by simp [lk, keepEnv, Od.v, hb1, hb8, hvn, s2, s3, a8, t8, w8, a9, ldx]; exact rfl)] | rw [t_blk]))
      (try simp only [keepEnv, List.map_cons, List.map_nil, lk, reduceIte, Nat.reduceEqDiff, Nat.zero_ne_one, Nat.one_ne_zero])
      rw [l1]
      (repeat (first | rw [s_assoc] | rw [s_seq_reg (by simp [go_sem]; exact ⟨rfl, rfl⟩)] | rw [s_cnd (by simp [lk, keepEnv, Od.v]; exact rfl)] | rw [cnd_t] | rw [cnd_f] | rw [s_skip] | rw [s_ret] | rw [s_exit] | rw [C_ret] | rw [C_exit] | rw [C_skip] | rw [blk_ret] | rw [blk_norm] | rw [blk_exit] | rw [blk_exit' (by decide)] | rw [blkT_ret] | rw [blkT_norm] | rw [blkT_exit] | rw [blkT_exit' (by decide)] | rw [s_blk] | rw [s_reg (by simp [go_sem]; exact ⟨rfl, rfl⟩)] | rw [t_cnd (by simp [lk, keepEnv, Od.v]; exact rfl)] | rw [t_blk]))
      (try simp only [keepEnv, List.map_cons, List.map_nil, lk, reduceIte, Nat.reduceEqDiff, Nat.zero_ne_one, Nat.one_ne_zero])
      rw [l2]
      (repeat (first | rw [s_assoc] | rw [s_seq_reg (by simp [go_sem, hb9, v2, v3, v4, z9, q1, q1', q3, ldx]; exact ⟨rfl, rfl⟩)] | rw [s_cnd (by simp [lk, keepEnv, Od.v, hb9, v2, v3, v4, z9, q1, q1', q3, ldx]; exact rfl)] | rw [cnd_t] | rw [cnd_f] | rw [s_skip] | rw [s_ret] | rw [s_exit] | rw [C_ret] | rw [C_exit] | rw [C_skip] | rw [blk_ret] | rw [blk_norm] | rw [blk_exit] | rw [blk_exit' (by decide)] | rw [blkT_ret] | rw [blkT_norm] | rw [blkT_exit] | rw [blkT_exit' (by decide)] | rw [s_blk] | rw [s_reg (by simp [go_sem, hb9, v2, v3, v4, z9, q1, q1', q3, ldx]; exact ⟨rfl, rfl⟩)] | rw [t_cnd (by simp [lk, keepEnv, Od.v, hb9, v2, v3, v4, z9, q1, q1', q3, ldx]; exact rfl)] | rw [t_blk]))
      (try simp only [keepEnv, List.map_cons, List.map_nil, lk, reduceIte, Nat.reduceEqDiff, Nat.zero_ne_one, Nat.one_ne_zero])
      rw [l3]
      (repeat (first | rw [s_assoc] | rw [s_seq_reg (by simp [go_sem]; exact ⟨rfl, rfl⟩)] | rw [s_cnd (by simp [lk, keepEnv, Od.v]; exact rfl)] | rw [cnd_t] | rw [cnd_f] | rw [s_skip] | rw [s_ret] | rw [s_exit] | rw [C_ret] | rw [C_exit] | rw [C_skip] | rw [blk_ret] | rw [blk_norm] | rw [blk_exit] | rw [blk_exit' (by decide)] | rw [blkT_ret] | rw [blkT_norm] | rw [blkT_exit] | rw [blkT_exit' (by decide)] | rw [s_blk] | rw [s_reg (by simp [go_sem]; exact ⟨rfl, rfl⟩)] | rw [t_cnd (by simp [lk, keepEnv, Od.v]; exact rfl)] | rw [t_blk]))
      rw [ends_ret]
      simp [resL, lk, keepEnv, hf9]
  · have e0 : (co.length : Int) = 0 := by omega
    have q2' : (0 : Int) < (n : Int) := by omega
    have q3 : ((n : Int) == 0) = false := by simp only [beq_eq_false_iff_ne]; omega
    clear hn
    rcases l3 with ⟨ex3, l3, rfl⟩ | ⟨l3, rfl⟩
    · rw [E_go (X := X) _ b16 _ rfl rfl]; unfold b16
      (repeat (first | rw [s_assoc] | rw [s_seq_reg (by simp [go_sem, e35, v1, v2, v3, v4, v5, c1, d1, c2, d2, c3, d3, c4, d4, c5, d5, c6, c7]; exact ⟨rfl, rfl⟩)] | rw [s_cnd (by simp [lk, keepEnv, Od.v, e35, v1, v2, v3, v4, v5, c1, d1, c2, d2, c3, d3, c4, d4, c5, d5, c6, c7]; exact rfl)] | rw [cnd_t] | rw [cnd_f] | rw [s_skip] | rw [s_ret] | rw [s_exit] | rw [C_ret] | rw [C_exit] | rw [C_skip] | rw [blk_ret] | rw [blk_norm] | rw [blk_exit] | rw [blk_exit' (by decide)] | rw [blkT_ret] | rw [blkT_norm] | rw [blkT_exit] | rw [blkT_exit' (by decide)] | rw [s_blk] | rw [s_reg (by simp [go_sem, e35, v1, v2, v3, v4, v5, c1, d1, c2, d2, c3, d3, c4, d4, c5, d5, c6, c7]; exact ⟨rfl, rfl⟩)] | rw [t_cnd (by simp [lk, keepEnv, Od.v, e35, v1, v2, v3, v4, v5, c1, d1, c2, d2, c3, d3, c4, d4, c5, d5, c6, c7]; exact rfl)] | rw [t_blk]))
      (try simp only [keepEnv, List.map_cons, List.map_nil, lk, reduceIte, Nat.reduceEqDiff, Nat.zero_ne_one, Nat.one_ne_zero])
      rw [l0]
      (repeat (first | rw [s_assoc] | rw [s_seq_reg (by simp [go_sem, hb1, hb8, hvn, s2, s3, a8, t8, w8, a9, ldx]; exact ⟨rfl, rfl⟩)] | rw [s_cnd (by simp [lk, keepEnv, Od.v, hb1, hb8, hvn, s2, s3, a8, t8, w8, a9, ldx]; exact rfl)] | rw [cnd_t] | rw [cnd_f] | rw [s_skip] | rw [s_ret] | rw [s_exit] | rw [C_ret] | rw [C_exit] | rw [C_skip] | rw [blk_ret] | rw [blk_norm] | rw [blk_exit] | rw [blk_exit' (by decide)] | rw [blkT_ret] | rw [blkT_norm] | rw [blkT_exit] | rw [blkT_exit' (by decide)] | rw [s_blk] | rw [s_reg (by simp [go_sem, hb1, hb8, hvn, s2, s3, a8, t8, w8, a9, ldx]; exact ⟨rfl, rfl⟩)] | rw [t_cnd (by simp [lk, keepEnv, Od.v, hb1, hb8, hvn, s2, s3, a8, t8, w8, a9, ldx]; exact rfl)] | rw [t_blk]))
      (try simp only [keepEnv, List.map_cons, List.map_nil, lk, reduceIte, Nat.reduceEqDiff, Nat.zero_ne_one, Nat.one_ne_zero])
      rw [l1]
      (repeat (first | rw [s_assoc] | rw [s_seq_reg (by simp [go_sem]; exact ⟨rfl, rfl⟩)] | rw [s_cnd (by simp [lk, keepEnv, Od.v]; exact rfl)] | rw [cnd_t] | rw [cnd_f] | rw [s_skip] | rw [s_ret] | rw [s_exit] | rw [C_ret] | rw [C_exit] | rw [C_skip] | rw [blk_ret] | rw [blk_norm] | rw [blk_exit] | rw [blk_exit' (by decide)] | rw [blkT_ret] | rw [blkT_norm] | rw [blkT_exit] | rw [blkT_exit' (by decide)] | rw [s_blk] | rw [s_reg (by simp [go_sem]; exact ⟨rfl, rfl⟩)] | rw [t_cnd (by simp [lk, keepEnv, Od.v]; exact rfl)] | rw [t_blk]))
      (try simp only [keepEnv, List.map_cons, List.map_nil, lk, reduceIte, Nat.reduceEqDiff, Nat.zero_ne_one, Nat.one_ne_zero])
      rw [l2]
      (repeat (first | rw [s_assoc] | rw [s_seq_reg (by simp [go_sem, hb9, v2, v3, v4, z9, q1, e0, q2, q2', q3, ldx]; exact ⟨rfl, rfl⟩)] | rw [s_cnd (by simp [lk, keepEnv, Od.v, hb9, v2, v3, v4, z9, q1, e0, q2, q2', q3, ldx]; exact rfl)] | rw [cnd_t] | rw [cnd_f] | rw [s_skip] | rw [s_ret] | rw [s_exit] | rw [C_ret] | rw [C_exit] | rw [C_skip] | rw [blk_ret] | rw [blk_norm] | rw [blk_exit] | rw [blk_exit' (by decide)] | rw [blkT_ret] | rw [blkT_norm] | rw [blkT_exit] | rw [blkT_exit' (by decide)] | rw [s_blk] | rw [s_reg (by simp [go_sem, hb9, v2, v3, v4, z9, q1, e0, q2, q2', q3, ldx]; exact ⟨rfl, rfl⟩)] | rw [t_cnd (by simp [lk, keepEnv, Od.v, hb9, v2, v3, v4, z9, q1, e0, q2, q2', q3, ldx]; exact rfl)] | rw [t_blk]))
      (try simp only [keepEnv, List.map_cons, List.map_nil, lk, reduceIte, Nat.reduceEqDiff, Nat.zero_ne_one, Nat.one_ne_zero])
      rw [l3]
      (repeat (first | rw [s_assoc] | rw [s_seq_reg (by simp [go_sem]; exact ⟨rfl, rfl⟩)] | rw [s_cnd (by simp [lk, keepEnv, Od.v]; exact rfl)] | rw [cnd_t] | rw [cnd_f] | rw [s_skip] | rw [s_ret] | rw [s_exit] | rw [C_ret] | rw [C_exit] | rw [C_skip] | rw [blk_ret] | rw [blk_norm] | rw [blk_exit] | rw [blk_exit' (by decide)] | rw [blkT_ret] | rw [blkT_norm] | rw [blkT_exit] | rw [blkT_exit' (by decide)] | rw [s_blk] | rw [s_reg (by simp [go_sem]; exact ⟨rfl, rfl⟩)] | rw [t_cnd (by simp [lk, keepEnv, Od.v]; exact rfl)] | rw [t_blk]))
      rw [ends_ret]
      simp [resL, lk, keepEnv, hf9]
    · rw [E_go (X := X) _ b16 _ rfl rfl]; unfold b16
      (repeat (first | rw [s_assoc] | rw [s_seq_reg (by simp [go_sem, e35, v1, v2, v3, v4, v5, c1, d1, c2, d2, c3, d3, c4, d4, c5, d5, c6, c7]; exact ⟨rfl, rfl⟩)] | rw [s_cnd (by simp [lk, keepEnv, Od.v, e35, v1, v2, v3, v4, v5, c1, d1, c2, d2, c3, d3, c4, d4, c5, d5, c6, c7]; exact rfl)] | rw [cnd_t] | rw [cnd_f] | rw [s_skip] | rw [s_ret] | rw [s_exit] | rw [C_ret] | rw [C_exit] | rw [C_skip] | rw [blk_ret] | rw [blk_norm] | rw [blk_exit] | rw [blk_exit' (by decide)] | rw [blkT_ret] | rw [blkT_norm] | rw [blkT_exit] | rw [blkT_exit' (by decide)] | rw [s_blk] | rw [s_reg (by simp [go_sem, e35, v1, v2, v3, v4, v5, c1, d1, c2, d2, c3, d3, c4, d4, c5, d5, c6, c7]; exact ⟨rfl, rfl⟩)] | rw [t_cnd (by simp [lk, keepEnv, Od.v, e35, v1, v2, v3, v4, v5, c1, d1, c2, d2, c3, d3, c4, d4, c5, d5, c6, c7]; exact rfl)] | rw [t_blk]))
      (try simp only [keepEnv, List.map_cons, List.map_nil, lk, reduceIte, Nat.reduceEqDiff, Nat.zero_ne_one, Nat.one_ne_zero])
      rw [l0]
      (repeat (first | rw [s_assoc] | rw [s_seq_reg (by simp [go_sem, hb1, hb8, hvn, s2, s3, a8, t8, w8, a9, ldx]; exact ⟨rfl, rfl⟩)] | rw [s_cnd (by simp [lk, keepEnv, Od.v, hb1, hb8, hvn, s2, s3, a8, t8, w8, a9, ldx]; exact rfl)] | rw [cnd_t] | rw [cnd_f] | rw [s_skip] | rw [s_ret] | rw [s_exit] | rw [C_ret] | rw [C_exit] | rw [C_skip] | rw [blk_ret] | rw [blk_norm] | rw [blk_exit] | rw [blk_exit' (by decide)] | rw [blkT_ret] | rw [blkT_norm] | rw [blkT_exit] | rw [blkT_exit' (by decide)] | rw [s_blk] | rw [s_reg (by simp [go_sem, hb1, hb8, hvn, s2, s3, a8, t8, w8, a9, ldx]; exact ⟨rfl, rfl⟩)] | rw [t_cnd (by simp [lk, keepEnv, Od.v, hb1, hb8, hvn, s2, s3, a8, t8, w8, a9, ldx]; exact rfl)] | rw [t_blk]))
      (try simp only [keepEnv, List.map_cons, List.map_nil, lk, reduceIte, Nat.reduceEqDiff, Nat.zero_ne_one, Nat.one_ne_zero])
      rw [l1]
      (repeat (first | rw [s_assoc] | rw [s_seq_reg (by simp [go_sem]; exact ⟨rfl, rfl⟩)] | rw [s_cnd (by simp [lk, keepEnv, Od.v]; exact rfl)] | rw [cnd_t] | rw [cnd_f] | rw [s_skip] | rw [s_ret] | rw [s_exit] | rw [C_ret] | rw [C_exit] | rw [C_skip] | rw [blk_ret] | rw [blk_norm] | rw [blk_exit] | rw [blk_exit' (by decide)] | rw [blkT_ret] | rw [blkT_norm] | rw [blkT_exit] | rw [blkT_exit' (by decide)] | rw [s_blk] | rw [s_reg (by simp [go_sem]; exact ⟨rfl, rfl⟩)] | rw [t_cnd (by simp [lk, keepEnv, Od.v]; exact rfl)] | rw [t_blk]))
      (try simp only [keepEnv, List.map_cons, List.map_nil, lk, reduceIte, Nat.reduceEqDiff, Nat.zero_ne_one, Nat.one_ne_zero])
      rw [l2]
      (repeat (first | rw [s_assoc] | rw [s_seq_reg (by simp [go_sem, hb9, v2, v3, v4, z9, q1, e0, q2, q2', q3, ldx]; exact ⟨rfl, rfl⟩)] | rw [s_cnd (by simp [lk, keepEnv, Od.v, hb9, v2, v3, v4, z9, q1, e0, q2, q2', q3, ldx]; exact rfl)] | rw [cnd_t] | rw [cnd_f] | rw [s_skip] | rw [s_ret] | rw [s_exit] | rw [C_ret] | rw [C_exit] | rw [C_skip] | rw [blk_ret] | rw [blk_norm] | rw [blk_exit] | rw [blk_exit' (by decide)] | rw [blkT_ret] | rw [blkT_norm] | rw [blkT_exit] | rw [blkT_exit' (by decide)] | rw [s_blk] | rw [s_reg (by simp [go_sem, hb9, v2, v3, v4, z9, q1, e0, q2, q2', q3, ldx]; exact ⟨rfl, rfl⟩)] | rw [t_cnd (by simp [lk, keepEnv, Od.v, hb9, v2, v3, v4, z9, q1, e0, q2, q2', q3, ldx]; exact rfl)] | rw [t_blk]))
      (try simp only [keepEnv, List.map_cons, List.map_nil, lk, reduceIte, Nat.reduceEqDiff, Nat.zero_ne_one, Nat.one_ne_zero])
      rw [l3]
      (repeat (first | rw [s_assoc] | rw [s_seq_reg (by simp [go_sem]; exact ⟨rfl, rfl⟩)] | rw [s_cnd (by simp [lk, keepEnv, Od.v]; exact rfl)] | rw [cnd_t] | rw [cnd_f] | rw [s_skip] | rw [s_ret] | rw [s_exit] | rw [C_ret] | rw [C_exit] | rw [C_skip] | rw [blk_ret] | rw [blk_norm] | rw [blk_exit] | rw [blk_exit' (by decide)] | rw [blkT_ret] | rw [blkT_norm] | rw [blkT_exit] | rw [blkT_exit' (by decide)] | rw [s_blk] | rw [s_reg (by simp [go_sem]; exact ⟨rfl, rfl⟩)] | rw [t_cnd (by simp [lk, keepEnv, Od.v]; exact rfl)] | rw [t_blk]))
      rw [ends_ret]
      simp [resL, lk, keepEnv, hf9]
end Go.Proofs.YtobpbjmnonbblaaDoor
