/- Ideal runs: few, the chapter's example. -/
import Derived.Test.YtobpbjmnonbblaaDoorQryH
import Derived.Test.YtobpbjmnonbblaaDoorInts
namespace Go.Proofs.YtobpbjmnonbblaaDoor
attribute [local go_sem] evOps evOp_n evOp_r evOp_d evOp_dr kpo_refl kpo_app cnd_some cnd_pair cnd_cnd_t cnd_cnd_f cnd_same cnd_dvb cnd_and cnd_or gd_bool gd_boolf gd_tup cnd_t cnd_f evTo isCall evx put lk Od.v keepEnv enterEnv ldx_ref rdc binx binI binS unx eqk DV.isU DV.cells hget hget0 hset hset0 stx_ref splice fillp mat eqcs eqs one_bool one_int one_str one_nilp one_ref one_elem one_nils one_list one_row one_nilm one_map one_nilf one_func one_nili one_ifc one_agg one_tup one_undef one_fresh
attribute [local go_sem ↓] evx_pick
set_option linter.unusedVariables false
set_option linter.unusedSimpArgs false
set_option maxRecDepth 10000
theorem loop8 {h : Heap} {Cd : DV} {s : Sch} {b : Nat} (hC : ∀ g, vw g 3 Cd = some (s.cols.map Cl.d)) (hb : h[b]? = some (.box 24 (schC Cd s))) (hl : s.cols.length ≤ 1000) :
    ∀ (k i : Nat), s.cols.length - i ≤ k → i ≤ s.cols.length → (∃ ex, C X (.loop lp8_0) [(1, .ref b 0), (3, .int .i64 i)] h = some (.exit 0, (1, .ref b 0) :: ex, h)) ∨ C X (.loop lp8_0) [(1, .ref b 0), (3, .int .i64 i)] h = some (.ret, [(2, .bool false)], h) := by
  obtain ⟨cols, k1, k2, k3, k4⟩ := s
  simp only [schC] at *
  intro k
  induction k with
  | zero =>
    intro i hk hi
    obtain rfl : i = cols.length := by omega
    refine .inl ⟨[(3, .int .i64 cols.length), (12, .bool false)], ?_⟩
    rw [t_loop]
    unfold lp8_0
    (repeat (first | rw [s_assoc] | rw [s_seq_reg (by simp [go_sem, hC, hb, ldx]; exact ⟨rfl, rfl⟩)] | rw [s_cnd (by simp [lk, keepEnv, Od.v, hC, hb, ldx]; exact rfl)] | rw [cnd_t] | rw [cnd_f] | rw [s_skip] | rw [s_ret] | rw [s_exit] | rw [C_ret] | rw [C_exit] | rw [C_skip] | rw [blk_ret] | rw [blk_norm] | rw [blk_exit] | rw [blk_exit' (by decide)] | rw [blkT_ret] | rw [blkT_norm] | rw [blkT_exit] | rw [blkT_exit' (by decide)] | rw [s_blk] | rw [s_reg (by simp [go_sem, hC, hb, ldx]; exact ⟨rfl, rfl⟩)] | rw [t_cnd (by simp [lk, keepEnv, Od.v, hC, hb, ldx]; exact rfl)] | rw [t_blk]))
    rw [lp_exit]
    simp [keepEnv, lk]
  | succ k ih =>
    intro i hk hi
    by_cases c : i < cols.length
    · obtain ⟨I, hI⟩ : ∃ I, I = i + 1 := ⟨_, rfl⟩
      have z1 : IntKind.i64.wrap ((i : Int) + 1) = (I : Int) := (by rw [wrap64 _ (by omega) (by omega)]; omega)
      obtain ⟨x, hx⟩ : ∃ x, x = cols[i] := ⟨_, rfl⟩
      have hxi : cols[i]? = some x := by rw [hx]; exact List.getElem?_eq_getElem c
      have hx' := hx.symm
      by_cases d : 100 < x.nm.size
      · right
        have d' : (100 : Int) < (x.nm.size : Int) := by omega
        have hs : C X lp8_0 [(1, .ref b 0), (3, .int .i64 i)] h = some (.ret, [(2, .bool false)], h) := by
          clear ih hx
          obtain ⟨cn, ck, cl⟩ := x
          simp only [Cl.d] at *
          unfold lp8_0
          (repeat (first | rw [s_assoc] | rw [s_seq_reg (by simp [go_sem, c, z1, hC, hb, hx', hxi, d, d', ldx]; exact ⟨rfl, rfl⟩)] | rw [s_cnd (by simp [lk, keepEnv, Od.v, c, z1, hC, hb, hx', hxi, d, d', ldx]; exact rfl)] | rw [cnd_t] | rw [cnd_f] | rw [s_skip] | rw [s_ret] | rw [s_exit] | rw [C_ret] | rw [C_exit] | rw [C_skip] | rw [blk_ret] | rw [blk_norm] | rw [blk_exit] | rw [blk_exit' (by decide)] | rw [blkT_ret] | rw [blkT_norm] | rw [blkT_exit] | rw [blkT_exit' (by decide)] | rw [s_blk] | rw [s_reg (by simp [go_sem, c, z1, hC, hb, hx', hxi, d, d', ldx]; exact ⟨rfl, rfl⟩)] | rw [t_cnd (by simp [lk, keepEnv, Od.v, c, z1, hC, hb, hx', hxi, d, d', ldx]; exact rfl)] | rw [t_blk]))
          simp [keepEnv, lk]
        rw [t_loop, hs, lp_ret]
      · have d' : ¬ (100 : Int) < (x.nm.size : Int) := by omega
        have hs : C X lp8_0 [(1, .ref b 0), (3, .int .i64 i)] h = some (.norm, [(1, .ref b 0), (3, .int .i64 I)], h) := by
          clear ih hx
          obtain ⟨cn, ck, cl⟩ := x
          simp only [Cl.d] at *
          unfold lp8_0
          (repeat (first | rw [s_assoc] | rw [s_seq_reg (by simp [go_sem, c, z1, hC, hb, hx', hxi, d, d', ldx]; exact ⟨rfl, rfl⟩)] | rw [s_cnd (by simp [lk, keepEnv, Od.v, c, z1, hC, hb, hx', hxi, d, d', ldx]; exact rfl)] | rw [cnd_t] | rw [cnd_f] | rw [s_skip] | rw [s_ret] | rw [s_exit] | rw [C_ret] | rw [C_exit] | rw [C_skip] | rw [blk_ret] | rw [blk_norm] | rw [blk_exit] | rw [blk_exit' (by decide)] | rw [blkT_ret] | rw [blkT_norm] | rw [blkT_exit] | rw [blkT_exit' (by decide)] | rw [s_blk] | rw [s_reg (by simp [go_sem, c, z1, hC, hb, hx', hxi, d, d', ldx]; exact ⟨rfl, rfl⟩)] | rw [t_cnd (by simp [lk, keepEnv, Od.v, c, z1, hC, hb, hx', hxi, d, d', ldx]; exact rfl)] | rw [t_blk]))
          simp [keepEnv, lk]
        rw [t_loop, hs, lp_norm]
        exact ih I (by omega) (by omega)
    · exact ih i (by omega) hi
theorem run8 {Cd : DV} {s : Sch} (hC : ∀ g, vw g 3 Cd = some (s.cols.map Cl.d)) (H : Heap) : ∃ bb, E X 8 [schD Cd s] H = some (.bool bb, H) ∧ (bb = true → s.cols.length ≤ 12) := by
  by_cases c : 12 < s.cols.length
  · refine ⟨false, ?_, fun h => by cases h⟩
    have d : (12 : Int) < (s.cols.length : Int) := by omega
    obtain ⟨cols, k1, k2, k3, k4⟩ := s
    simp only [schD, schC] at *
    rw [E_go (X := X) _ b8 _ rfl rfl]; unfold b8; (repeat (first | rw [s_assoc] | rw [s_seq_reg (by simp [go_sem, hC, c, d]; exact ⟨rfl, rfl⟩)] | rw [s_cnd (by simp [lk, keepEnv, Od.v, hC, c, d]; exact rfl)] | rw [cnd_t] | rw [cnd_f] | rw [s_skip] | rw [s_ret] | rw [s_exit] | rw [C_ret] | rw [C_exit] | rw [C_skip] | rw [blk_ret] | rw [blk_norm] | rw [blk_exit] | rw [blk_exit' (by decide)] | rw [blkT_ret] | rw [blkT_norm] | rw [blkT_exit] | rw [blkT_exit' (by decide)] | rw [s_blk] | rw [s_reg (by simp [go_sem, hC, c, d]; exact ⟨rfl, rfl⟩)] | rw [t_cnd (by simp [lk, keepEnv, Od.v, hC, c, d]; exact rfl)] | rw [t_blk])); simp [ends_ret, ends_norm, resL, go_sem, fin, fz0, fz1, fzT, fzL, nlt, hC, c, d]
  · have d : ¬ (12 : Int) < (s.cols.length : Int) := by omega
    rcases loop8 (b := H.length) (h := H ++ [.box 24 (schC Cd s)]) hC (by simp) (by omega) s.cols.length 0 (by omega) (by omega) with ⟨ex, hc⟩ | hc
    · refine ⟨true, ?_, fun _ => by omega⟩
      rw [show ((0 : Nat) : Int) = 0 from rfl] at hc
      obtain ⟨cols, k1, k2, k3, k4⟩ := s
      simp only [schD, schC] at *
      rw [E_go (X := X) _ b8 _ rfl rfl]; unfold b8
      (repeat (first | rw [s_assoc] | rw [s_seq_reg (by simp [go_sem, hC, c, d]; exact ⟨rfl, rfl⟩)] | rw [s_cnd (by simp [lk, keepEnv, Od.v, hC, c, d]; exact rfl)] | rw [cnd_t] | rw [cnd_f] | rw [s_skip] | rw [s_ret] | rw [s_exit] | rw [C_ret] | rw [C_exit] | rw [C_skip] | rw [blk_ret] | rw [blk_norm] | rw [blk_exit] | rw [blk_exit' (by decide)] | rw [blkT_ret] | rw [blkT_norm] | rw [blkT_exit] | rw [blkT_exit' (by decide)] | rw [s_blk] | rw [s_reg (by simp [go_sem, hC, c, d]; exact ⟨rfl, rfl⟩)] | rw [t_cnd (by simp [lk, keepEnv, Od.v, hC, c, d]; exact rfl)] | rw [t_blk]))
      (try simp only [keepEnv, List.map_cons, List.map_nil, lk, reduceIte, Nat.reduceEqDiff, Nat.zero_ne_one, Nat.one_ne_zero])
      rw [hc]
      (repeat (first | rw [s_assoc] | rw [s_seq_reg (by simp [go_sem]; exact ⟨rfl, rfl⟩)] | rw [s_cnd (by simp [lk, keepEnv, Od.v]; exact rfl)] | rw [cnd_t] | rw [cnd_f] | rw [s_skip] | rw [s_ret] | rw [s_exit] | rw [C_ret] | rw [C_exit] | rw [C_skip] | rw [blk_ret] | rw [blk_norm] | rw [blk_exit] | rw [blk_exit' (by decide)] | rw [blkT_ret] | rw [blkT_norm] | rw [blkT_exit] | rw [blkT_exit' (by decide)] | rw [s_blk] | rw [s_reg (by simp [go_sem]; exact ⟨rfl, rfl⟩)] | rw [t_cnd (by simp [lk, keepEnv, Od.v]; exact rfl)] | rw [t_blk]))
      simp [ends_ret, ends_norm, resL, go_sem, fin, fz0, fz1, fzT, fzL, nlt]
    · refine ⟨false, ?_, fun h => by cases h⟩
      rw [show ((0 : Nat) : Int) = 0 from rfl] at hc
      obtain ⟨cols, k1, k2, k3, k4⟩ := s
      simp only [schD, schC] at *
      rw [E_go (X := X) _ b8 _ rfl rfl]; unfold b8
      (repeat (first | rw [s_assoc] | rw [s_seq_reg (by simp [go_sem, hC, c, d]; exact ⟨rfl, rfl⟩)] | rw [s_cnd (by simp [lk, keepEnv, Od.v, hC, c, d]; exact rfl)] | rw [cnd_t] | rw [cnd_f] | rw [s_skip] | rw [s_ret] | rw [s_exit] | rw [C_ret] | rw [C_exit] | rw [C_skip] | rw [blk_ret] | rw [blk_norm] | rw [blk_exit] | rw [blk_exit' (by decide)] | rw [blkT_ret] | rw [blkT_norm] | rw [blkT_exit] | rw [blkT_exit' (by decide)] | rw [s_blk] | rw [s_reg (by simp [go_sem, hC, c, d]; exact ⟨rfl, rfl⟩)] | rw [t_cnd (by simp [lk, keepEnv, Od.v, hC, c, d]; exact rfl)] | rw [t_blk]))
      (try simp only [keepEnv, List.map_cons, List.map_nil, lk, reduceIte, Nat.reduceEqDiff, Nat.zero_ne_one, Nat.one_ne_zero])
      rw [hc]
      (repeat (first | rw [s_assoc] | rw [s_seq_reg (by simp [go_sem]; exact ⟨rfl, rfl⟩)] | rw [s_cnd (by simp [lk, keepEnv, Od.v]; exact rfl)] | rw [cnd_t] | rw [cnd_f] | rw [s_skip] | rw [s_ret] | rw [s_exit] | rw [C_ret] | rw [C_exit] | rw [C_skip] | rw [blk_ret] | rw [blk_norm] | rw [blk_exit] | rw [blk_exit' (by decide)] | rw [blkT_ret] | rw [blkT_norm] | rw [blkT_exit] | rw [blkT_exit' (by decide)] | rw [s_blk] | rw [s_reg (by simp [go_sem]; exact ⟨rfl, rfl⟩)] | rw [t_cnd (by simp [lk, keepEnv, Od.v]; exact rfl)] | rw [t_blk]))
      simp [ends_ret, ends_norm, resL, go_sem, fin, fz0, fz1, fzT, fzL, nlt]
theorem loop9_0 {h : Heap} {F Cn Gr Ag So : DV} {q : Qry} {b : Nat} {l : Int} (hq : QV h F Cn Gr Ag So q) (hb : h[b]? = some (.box 30 (qryC F Cn Gr Ag So l))) :
    ∀ (k i : Nat), q.filter.length - i ≤ k → i ≤ q.filter.length → (∃ ex, C X (.loop lp9_0) [(1, .ref b 0), (3, .int .i64 i)] h = some (.exit 0, (1, .ref b 0) :: ex, h) ∧ ∀ (j : Nat) x, i ≤ j → q.filter[j]? = some x → ¬ 50 ≤ x.col) ∨ C X (.loop lp9_0) [(1, .ref b 0), (3, .int .i64 i)] h = some (.ret, [(2, .bool false)], h) := by
  have hv : vw h 8 F = some (q.filter.map N.d) := by have := hq.f []; rwa [List.append_nil] at this
  have hlen := hq.nf
  clear hq
  obtain ⟨fl, co, gr, ag, so, lim⟩ := q
  simp only [qryC] at *
  intro k
  induction k with
  | zero =>
    intro i hk hi
    obtain rfl : i = fl.length := by omega
    refine .inl ⟨[(3, .int .i64 fl.length), (39, .bool false)], ?_, fun j x hj hx => by rw [List.getElem?_eq_none hj] at hx; cases hx⟩
    rw [t_loop]
    unfold lp9_0
    (repeat (first | rw [s_assoc] | rw [s_seq_reg (by simp [go_sem, hv, hb, ldx]; exact ⟨rfl, rfl⟩)] | rw [s_cnd (by simp [lk, keepEnv, Od.v, hv, hb, ldx]; exact rfl)] | rw [cnd_t] | rw [cnd_f] | rw [s_skip] | rw [s_ret] | rw [s_exit] | rw [C_ret] | rw [C_exit] | rw [C_skip] | rw [blk_ret] | rw [blk_norm] | rw [blk_exit] | rw [blk_exit' (by decide)] | rw [blkT_ret] | rw [blkT_norm] | rw [blkT_exit] | rw [blkT_exit' (by decide)] | rw [s_blk] | rw [s_reg (by simp [go_sem, hv, hb, ldx]; exact ⟨rfl, rfl⟩)] | rw [t_cnd (by simp [lk, keepEnv, Od.v, hv, hb, ldx]; exact rfl)] | rw [t_blk]))
    rw [lp_exit]
    simp [keepEnv, lk]
  | succ k ih =>
    intro i hk hi
    by_cases c : i < fl.length
    · obtain ⟨I, hI⟩ : ∃ I, I = i + 1 := ⟨_, rfl⟩
      have z1 : IntKind.i64.wrap ((i : Int) + 1) = (I : Int) := (by rw [wrap64 _ (by omega) (by omega)]; omega)
      obtain ⟨x, hx⟩ : ∃ x, x = fl[i] := ⟨_, rfl⟩
      have hxi : fl[i]? = some x := by rw [hx]; exact List.getElem?_eq_getElem c
      have hx' := hx.symm
      have hr : ∀ (hs : C X lp9_0 [(1, .ref b 0), (3, .int .i64 i)] h = some (.ret, [(2, .bool false)], h)), (∃ ex, C X (.loop lp9_0) [(1, .ref b 0), (3, .int .i64 i)] h = some (.exit 0, (1, .ref b 0) :: ex, h) ∧ ∀ (j : Nat) x, i ≤ j → fl[j]? = some x → ¬ 50 ≤ x.col) ∨ C X (.loop lp9_0) [(1, .ref b 0), (3, .int .i64 i)] h = some (.ret, [(2, .bool false)], h) := fun hs => .inr (by rw [t_loop, hs, lp_ret])
      have hn : ∀ (hd : ¬ 50 ≤ x.col) (hs : C X lp9_0 [(1, .ref b 0), (3, .int .i64 i)] h = some (.norm, [(1, .ref b 0), (3, .int .i64 I)], h)), (∃ ex, C X (.loop lp9_0) [(1, .ref b 0), (3, .int .i64 i)] h = some (.exit 0, (1, .ref b 0) :: ex, h) ∧ ∀ (j : Nat) x, i ≤ j → fl[j]? = some x → ¬ 50 ≤ x.col) ∨ C X (.loop lp9_0) [(1, .ref b 0), (3, .int .i64 i)] h = some (.ret, [(2, .bool false)], h) := fun hd hs => by
        rw [t_loop, hs, lp_norm]
        rcases ih I (by omega) (by omega) with ⟨ex, h1, h2⟩ | h1
        · refine .inl ⟨ex, h1, fun j y hj hy => ?_⟩
          by_cases hji : j = i
          · subst hji
            rw [hxi] at hy; injection hy with hy; subst hy; exact hd
          · exact h2 j y (by omega) hy
        · exact .inr h1
      clear ih hx hI
      obtain ⟨ask, col, ⟨vk, vn, vs', vt⟩, xa, xb⟩ := x
      (try simp only [N.d, V.d] at *)
      by_cases e : 300 < vs'.size
      · have e' : (300 : Int) < (vs'.size : Int) := by omega
        refine hr ?_
        unfold lp9_0
        (repeat (first | rw [s_assoc] | rw [s_seq_reg (by simp [go_sem, c, z1, hv, hb, hx', hxi, e, e', ldx]; exact ⟨rfl, rfl⟩)] | rw [s_cnd (by simp [lk, keepEnv, Od.v, c, z1, hv, hb, hx', hxi, e, e', ldx]; exact rfl)] | rw [cnd_t] | rw [cnd_f] | rw [s_skip] | rw [s_ret] | rw [s_exit] | rw [C_ret] | rw [C_exit] | rw [C_skip] | rw [blk_ret] | rw [blk_norm] | rw [blk_exit] | rw [blk_exit' (by decide)] | rw [blkT_ret] | rw [blkT_norm] | rw [blkT_exit] | rw [blkT_exit' (by decide)] | rw [s_blk] | rw [s_reg (by simp [go_sem, c, z1, hv, hb, hx', hxi, e, e', ldx]; exact ⟨rfl, rfl⟩)] | rw [t_cnd (by simp [lk, keepEnv, Od.v, c, z1, hv, hb, hx', hxi, e, e', ldx]; exact rfl)] | rw [t_blk]))
        simp [keepEnv, lk]
      · have e' : ¬ (300 : Int) < (vs'.size : Int) := by omega
        by_cases d : 50 ≤ col
        · refine hr ?_
          unfold lp9_0
          (repeat (first | rw [s_assoc] | rw [s_seq_reg (by simp [go_sem, c, z1, hv, hb, hx', hxi, d, e, e', ldx]; exact ⟨rfl, rfl⟩)] | rw [s_cnd (by simp [lk, keepEnv, Od.v, c, z1, hv, hb, hx', hxi, d, e, e', ldx]; exact rfl)] | rw [cnd_t] | rw [cnd_f] | rw [s_skip] | rw [s_ret] | rw [s_exit] | rw [C_ret] | rw [C_exit] | rw [C_skip] | rw [blk_ret] | rw [blk_norm] | rw [blk_exit] | rw [blk_exit' (by decide)] | rw [blkT_ret] | rw [blkT_norm] | rw [blkT_exit] | rw [blkT_exit' (by decide)] | rw [s_blk] | rw [s_reg (by simp [go_sem, c, z1, hv, hb, hx', hxi, d, e, e', ldx]; exact ⟨rfl, rfl⟩)] | rw [t_cnd (by simp [lk, keepEnv, Od.v, c, z1, hv, hb, hx', hxi, d, e, e', ldx]; exact rfl)] | rw [t_blk]))
          simp [keepEnv, lk]
        · refine hn d ?_
          unfold lp9_0
          (repeat (first | rw [s_assoc] | rw [s_seq_reg (by simp [go_sem, c, z1, hv, hb, hx', hxi, d, e, e', ldx]; exact ⟨rfl, rfl⟩)] | rw [s_cnd (by simp [lk, keepEnv, Od.v, c, z1, hv, hb, hx', hxi, d, e, e', ldx]; exact rfl)] | rw [cnd_t] | rw [cnd_f] | rw [s_skip] | rw [s_ret] | rw [s_exit] | rw [C_ret] | rw [C_exit] | rw [C_skip] | rw [blk_ret] | rw [blk_norm] | rw [blk_exit] | rw [blk_exit' (by decide)] | rw [blkT_ret] | rw [blkT_norm] | rw [blkT_exit] | rw [blkT_exit' (by decide)] | rw [s_blk] | rw [s_reg (by simp [go_sem, c, z1, hv, hb, hx', hxi, d, e, e', ldx]; exact ⟨rfl, rfl⟩)] | rw [t_cnd (by simp [lk, keepEnv, Od.v, c, z1, hv, hb, hx', hxi, d, e, e', ldx]; exact rfl)] | rw [t_blk]))
          simp [keepEnv, lk]
    · exact ih i (by omega) hi
theorem loop9_1 {h : Heap} {F Cn Gr Ag So : DV} {q : Qry} {b : Nat} {l : Int} (hq : QV h F Cn Gr Ag So q) (hb : h[b]? = some (.box 30 (qryC F Cn Gr Ag So l))) :
    ∀ (k i : Nat), q.cols.length - i ≤ k → i ≤ q.cols.length → (∃ ex, C X (.loop lp9_1) [(1, .ref b 0), (4, .int .i64 i)] h = some (.exit 2, (1, .ref b 0) :: ex, h) ∧ ∀ (j : Nat) x, i ≤ j → q.cols[j]? = some x → ¬ 50 ≤ x) ∨ C X (.loop lp9_1) [(1, .ref b 0), (4, .int .i64 i)] h = some (.ret, [(2, .bool false)], h) := by
  have hv : ∀ g, vw g 1 Cn = some (q.cols.map intD) := hq.c.vw
  have hlen := hq.nc
  clear hq
  obtain ⟨fl, co, gr, ag, so, lim⟩ := q
  simp only [qryC] at *
  intro k
  induction k with
  | zero =>
    intro i hk hi
    obtain rfl : i = co.length := by omega
    refine .inl ⟨[(4, .int .i64 co.length), (64, .bool false)], ?_, fun j x hj hx => by rw [List.getElem?_eq_none hj] at hx; cases hx⟩
    rw [t_loop]
    unfold lp9_1
    (repeat (first | rw [s_assoc] | rw [s_seq_reg (by simp [go_sem, hv, hb, ldx]; exact ⟨rfl, rfl⟩)] | rw [s_cnd (by simp [lk, keepEnv, Od.v, hv, hb, ldx]; exact rfl)] | rw [cnd_t] | rw [cnd_f] | rw [s_skip] | rw [s_ret] | rw [s_exit] | rw [C_ret] | rw [C_exit] | rw [C_skip] | rw [blk_ret] | rw [blk_norm] | rw [blk_exit] | rw [blk_exit' (by decide)] | rw [blkT_ret] | rw [blkT_norm] | rw [blkT_exit] | rw [blkT_exit' (by decide)] | rw [s_blk] | rw [s_reg (by simp [go_sem, hv, hb, ldx]; exact ⟨rfl, rfl⟩)] | rw [t_cnd (by simp [lk, keepEnv, Od.v, hv, hb, ldx]; exact rfl)] | rw [t_blk]))
    rw [lp_exit]
    simp [keepEnv, lk]
  | succ k ih =>
    intro i hk hi
    by_cases c : i < co.length
    · obtain ⟨I, hI⟩ : ∃ I, I = i + 1 := ⟨_, rfl⟩
      have z1 : IntKind.i64.wrap ((i : Int) + 1) = (I : Int) := (by rw [wrap64 _ (by omega) (by omega)]; omega)
      obtain ⟨x, hx⟩ : ∃ x, x = co[i] := ⟨_, rfl⟩
      have hxi : co[i]? = some x := by rw [hx]; exact List.getElem?_eq_getElem c
      have hx' := hx.symm
      have hr : ∀ (hs : C X lp9_1 [(1, .ref b 0), (4, .int .i64 i)] h = some (.ret, [(2, .bool false)], h)), (∃ ex, C X (.loop lp9_1) [(1, .ref b 0), (4, .int .i64 i)] h = some (.exit 2, (1, .ref b 0) :: ex, h) ∧ ∀ (j : Nat) x, i ≤ j → co[j]? = some x → ¬ 50 ≤ x) ∨ C X (.loop lp9_1) [(1, .ref b 0), (4, .int .i64 i)] h = some (.ret, [(2, .bool false)], h) := fun hs => .inr (by rw [t_loop, hs, lp_ret])
      have hn : ∀ (hd : ¬ 50 ≤ x) (hs : C X lp9_1 [(1, .ref b 0), (4, .int .i64 i)] h = some (.norm, [(1, .ref b 0), (4, .int .i64 I)], h)), (∃ ex, C X (.loop lp9_1) [(1, .ref b 0), (4, .int .i64 i)] h = some (.exit 2, (1, .ref b 0) :: ex, h) ∧ ∀ (j : Nat) x, i ≤ j → co[j]? = some x → ¬ 50 ≤ x) ∨ C X (.loop lp9_1) [(1, .ref b 0), (4, .int .i64 i)] h = some (.ret, [(2, .bool false)], h) := fun hd hs => by
        rw [t_loop, hs, lp_norm]
        rcases ih I (by omega) (by omega) with ⟨ex, h1, h2⟩ | h1
        · refine .inl ⟨ex, h1, fun j y hj hy => ?_⟩
          by_cases hji : j = i
          · subst hji
            rw [hxi] at hy; injection hy with hy; subst hy; exact hd
          · exact h2 j y (by omega) hy
        · exact .inr h1
      clear ih hx hI
      (try simp only [intD] at *)
      by_cases d : 50 ≤ x
      · refine hr ?_
        unfold lp9_1
        (repeat (first | rw [s_assoc] | rw [s_seq_reg (by simp [go_sem, c, z1, hv, hb, hx', hxi, d, ldx]; exact ⟨rfl, rfl⟩)] | rw [s_cnd (by simp [lk, keepEnv, Od.v, c, z1, hv, hb, hx', hxi, d, ldx]; exact rfl)] | rw [cnd_t] | rw [cnd_f] | rw [s_skip] | rw [s_ret] | rw [s_exit] | rw [C_ret] | rw [C_exit] | rw [C_skip] | rw [blk_ret] | rw [blk_norm] | rw [blk_exit] | rw [blk_exit' (by decide)] | rw [blkT_ret] | rw [blkT_norm] | rw [blkT_exit] | rw [blkT_exit' (by decide)] | rw [s_blk] | rw [s_reg (by simp [go_sem, c, z1, hv, hb, hx', hxi, d, ldx]; exact ⟨rfl, rfl⟩)] | rw [t_cnd (by simp [lk, keepEnv, Od.v, c, z1, hv, hb, hx', hxi, d, ldx]; exact rfl)] | rw [t_blk]))
        simp [keepEnv, lk]
      · refine hn d ?_
        unfold lp9_1
        (repeat (first | rw [s_assoc] | rw [s_seq_reg (by simp [go_sem, c, z1, hv, hb, hx', hxi, d, ldx]; exact ⟨rfl, rfl⟩)] | rw [s_cnd (by simp [lk, keepEnv, Od.v, c, z1, hv, hb, hx', hxi, d, ldx]; exact rfl)] | rw [cnd_t] | rw [cnd_f] | rw [s_skip] | rw [s_ret] | rw [s_exit] | rw [C_ret] | rw [C_exit] | rw [C_skip] | rw [blk_ret] | rw [blk_norm] | rw [blk_exit] | rw [blk_exit' (by decide)] | rw [blkT_ret] | rw [blkT_norm] | rw [blkT_exit] | rw [blkT_exit' (by decide)] | rw [s_blk] | rw [s_reg (by simp [go_sem, c, z1, hv, hb, hx', hxi, d, ldx]; exact ⟨rfl, rfl⟩)] | rw [t_cnd (by simp [lk, keepEnv, Od.v, c, z1, hv, hb, hx', hxi, d, ldx]; exact rfl)] | rw [t_blk]))
        simp [keepEnv, lk]
    · exact ih i (by omega) hi
theorem loop9_2 {h : Heap} {F Cn Gr Ag So : DV} {q : Qry} {b : Nat} {l : Int} (hq : QV h F Cn Gr Ag So q) (hb : h[b]? = some (.box 30 (qryC F Cn Gr Ag So l))) :
    ∀ (k i : Nat), q.group.length - i ≤ k → i ≤ q.group.length → (∃ ex, C X (.loop lp9_2) [(1, .ref b 0), (5, .int .i64 i)] h = some (.exit 4, (1, .ref b 0) :: ex, h) ∧ ∀ (j : Nat) x, i ≤ j → q.group[j]? = some x → ¬ 50 ≤ x) ∨ C X (.loop lp9_2) [(1, .ref b 0), (5, .int .i64 i)] h = some (.ret, [(2, .bool false)], h) := by
  have hv : ∀ g, vw g 1 Gr = some (q.group.map intD) := hq.g.vw
  have hlen := hq.ng
  clear hq
  obtain ⟨fl, co, gr, ag, so, lim⟩ := q
  simp only [qryC] at *
  intro k
  induction k with
  | zero =>
    intro i hk hi
    obtain rfl : i = gr.length := by omega
    refine .inl ⟨[(5, .int .i64 gr.length), (77, .bool false)], ?_, fun j x hj hx => by rw [List.getElem?_eq_none hj] at hx; cases hx⟩
    rw [t_loop]
    unfold lp9_2
    (repeat (first | rw [s_assoc] | rw [s_seq_reg (by simp [go_sem, hv, hb, ldx]; exact ⟨rfl, rfl⟩)] | rw [s_cnd (by simp [lk, keepEnv, Od.v, hv, hb, ldx]; exact rfl)] | rw [cnd_t] | rw [cnd_f] | rw [s_skip] | rw [s_ret] | rw [s_exit] | rw [C_ret] | rw [C_exit] | rw [C_skip] | rw [blk_ret] | rw [blk_norm] | rw [blk_exit] | rw [blk_exit' (by decide)] | rw [blkT_ret] | rw [blkT_norm] | rw [blkT_exit] | rw [blkT_exit' (by decide)] | rw [s_blk] | rw [s_reg (by simp [go_sem, hv, hb, ldx]; exact ⟨rfl, rfl⟩)] | rw [t_cnd (by simp [lk, keepEnv, Od.v, hv, hb, ldx]; exact rfl)] | rw [t_blk]))
    rw [lp_exit]
    simp [keepEnv, lk]
  | succ k ih =>
    intro i hk hi
    by_cases c : i < gr.length
    · obtain ⟨I, hI⟩ : ∃ I, I = i + 1 := ⟨_, rfl⟩
      have z1 : IntKind.i64.wrap ((i : Int) + 1) = (I : Int) := (by rw [wrap64 _ (by omega) (by omega)]; omega)
      obtain ⟨x, hx⟩ : ∃ x, x = gr[i] := ⟨_, rfl⟩
      have hxi : gr[i]? = some x := by rw [hx]; exact List.getElem?_eq_getElem c
      have hx' := hx.symm
      have hr : ∀ (hs : C X lp9_2 [(1, .ref b 0), (5, .int .i64 i)] h = some (.ret, [(2, .bool false)], h)), (∃ ex, C X (.loop lp9_2) [(1, .ref b 0), (5, .int .i64 i)] h = some (.exit 4, (1, .ref b 0) :: ex, h) ∧ ∀ (j : Nat) x, i ≤ j → gr[j]? = some x → ¬ 50 ≤ x) ∨ C X (.loop lp9_2) [(1, .ref b 0), (5, .int .i64 i)] h = some (.ret, [(2, .bool false)], h) := fun hs => .inr (by rw [t_loop, hs, lp_ret])
      have hn : ∀ (hd : ¬ 50 ≤ x) (hs : C X lp9_2 [(1, .ref b 0), (5, .int .i64 i)] h = some (.norm, [(1, .ref b 0), (5, .int .i64 I)], h)), (∃ ex, C X (.loop lp9_2) [(1, .ref b 0), (5, .int .i64 i)] h = some (.exit 4, (1, .ref b 0) :: ex, h) ∧ ∀ (j : Nat) x, i ≤ j → gr[j]? = some x → ¬ 50 ≤ x) ∨ C X (.loop lp9_2) [(1, .ref b 0), (5, .int .i64 i)] h = some (.ret, [(2, .bool false)], h) := fun hd hs => by
        rw [t_loop, hs, lp_norm]
        rcases ih I (by omega) (by omega) with ⟨ex, h1, h2⟩ | h1
        · refine .inl ⟨ex, h1, fun j y hj hy => ?_⟩
          by_cases hji : j = i
          · subst hji
            rw [hxi] at hy; injection hy with hy; subst hy; exact hd
          · exact h2 j y (by omega) hy
        · exact .inr h1
      clear ih hx hI
      (try simp only [intD] at *)
      by_cases d : 50 ≤ x
      · refine hr ?_
        unfold lp9_2
        (repeat (first | rw [s_assoc] | rw [s_seq_reg (by simp [go_sem, c, z1, hv, hb, hx', hxi, d, ldx]; exact ⟨rfl, rfl⟩)] | rw [s_cnd (by simp [lk, keepEnv, Od.v, c, z1, hv, hb, hx', hxi, d, ldx]; exact rfl)] | rw [cnd_t] | rw [cnd_f] | rw [s_skip] | rw [s_ret] | rw [s_exit] | rw [C_ret] | rw [C_exit] | rw [C_skip] | rw [blk_ret] | rw [blk_norm] | rw [blk_exit] | rw [blk_exit' (by decide)] | rw [blkT_ret] | rw [blkT_norm] | rw [blkT_exit] | rw [blkT_exit' (by decide)] | rw [s_blk] | rw [s_reg (by simp [go_sem, c, z1, hv, hb, hx', hxi, d, ldx]; exact ⟨rfl, rfl⟩)] | rw [t_cnd (by simp [lk, keepEnv, Od.v, c, z1, hv, hb, hx', hxi, d, ldx]; exact rfl)] | rw [t_blk]))
        simp [keepEnv, lk]
      · refine hn d ?_
        unfold lp9_2
        (repeat (first | rw [s_assoc] | rw [s_seq_reg (by simp [go_sem, c, z1, hv, hb, hx', hxi, d, ldx]; exact ⟨rfl, rfl⟩)] | rw [s_cnd (by simp [lk, keepEnv, Od.v, c, z1, hv, hb, hx', hxi, d, ldx]; exact rfl)] | rw [cnd_t] | rw [cnd_f] | rw [s_skip] | rw [s_ret] | rw [s_exit] | rw [C_ret] | rw [C_exit] | rw [C_skip] | rw [blk_ret] | rw [blk_norm] | rw [blk_exit] | rw [blk_exit' (by decide)] | rw [blkT_ret] | rw [blkT_norm] | rw [blkT_exit] | rw [blkT_exit' (by decide)] | rw [s_blk] | rw [s_reg (by simp [go_sem, c, z1, hv, hb, hx', hxi, d, ldx]; exact ⟨rfl, rfl⟩)] | rw [t_cnd (by simp [lk, keepEnv, Od.v, c, z1, hv, hb, hx', hxi, d, ldx]; exact rfl)] | rw [t_blk]))
        simp [keepEnv, lk]
    · exact ih i (by omega) hi
theorem loop9_3 {h : Heap} {F Cn Gr Ag So : DV} {q : Qry} {b : Nat} {l : Int} (hq : QV h F Cn Gr Ag So q) (hb : h[b]? = some (.box 30 (qryC F Cn Gr Ag So l))) :
    ∀ (k i : Nat), q.aggs.length - i ≤ k → i ≤ q.aggs.length → (∃ ex, C X (.loop lp9_3) [(1, .ref b 0), (6, .int .i64 i)] h = some (.exit 6, (1, .ref b 0) :: ex, h) ∧ ∀ (j : Nat) x, i ≤ j → q.aggs[j]? = some x → ¬ 50 ≤ x.2) ∨ C X (.loop lp9_3) [(1, .ref b 0), (6, .int .i64 i)] h = some (.ret, [(2, .bool false)], h) := by
  have hv : ∀ g, vw g 2 Ag = some (q.aggs.map agD) := hq.a
  have hlen := hq.na
  clear hq
  obtain ⟨fl, co, gr, ag, so, lim⟩ := q
  simp only [qryC] at *
  intro k
  induction k with
  | zero =>
    intro i hk hi
    obtain rfl : i = ag.length := by omega
    refine .inl ⟨[(6, .int .i64 ag.length), (90, .bool false)], ?_, fun j x hj hx => by rw [List.getElem?_eq_none hj] at hx; cases hx⟩
    rw [t_loop]
    unfold lp9_3
    (repeat (first | rw [s_assoc] | rw [s_seq_reg (by simp [go_sem, hv, hb, ldx]; exact ⟨rfl, rfl⟩)] | rw [s_cnd (by simp [lk, keepEnv, Od.v, hv, hb, ldx]; exact rfl)] | rw [cnd_t] | rw [cnd_f] | rw [s_skip] | rw [s_ret] | rw [s_exit] | rw [C_ret] | rw [C_exit] | rw [C_skip] | rw [blk_ret] | rw [blk_norm] | rw [blk_exit] | rw [blk_exit' (by decide)] | rw [blkT_ret] | rw [blkT_norm] | rw [blkT_exit] | rw [blkT_exit' (by decide)] | rw [s_blk] | rw [s_reg (by simp [go_sem, hv, hb, ldx]; exact ⟨rfl, rfl⟩)] | rw [t_cnd (by simp [lk, keepEnv, Od.v, hv, hb, ldx]; exact rfl)] | rw [t_blk]))
    rw [lp_exit]
    simp [keepEnv, lk]
  | succ k ih =>
    intro i hk hi
    by_cases c : i < ag.length
    · obtain ⟨I, hI⟩ : ∃ I, I = i + 1 := ⟨_, rfl⟩
      have z1 : IntKind.i64.wrap ((i : Int) + 1) = (I : Int) := (by rw [wrap64 _ (by omega) (by omega)]; omega)
      obtain ⟨x, hx⟩ : ∃ x, x = ag[i] := ⟨_, rfl⟩
      have hxi : ag[i]? = some x := by rw [hx]; exact List.getElem?_eq_getElem c
      have hx' := hx.symm
      have hr : ∀ (hs : C X lp9_3 [(1, .ref b 0), (6, .int .i64 i)] h = some (.ret, [(2, .bool false)], h)), (∃ ex, C X (.loop lp9_3) [(1, .ref b 0), (6, .int .i64 i)] h = some (.exit 6, (1, .ref b 0) :: ex, h) ∧ ∀ (j : Nat) x, i ≤ j → ag[j]? = some x → ¬ 50 ≤ x.2) ∨ C X (.loop lp9_3) [(1, .ref b 0), (6, .int .i64 i)] h = some (.ret, [(2, .bool false)], h) := fun hs => .inr (by rw [t_loop, hs, lp_ret])
      have hn : ∀ (hd : ¬ 50 ≤ x.2) (hs : C X lp9_3 [(1, .ref b 0), (6, .int .i64 i)] h = some (.norm, [(1, .ref b 0), (6, .int .i64 I)], h)), (∃ ex, C X (.loop lp9_3) [(1, .ref b 0), (6, .int .i64 i)] h = some (.exit 6, (1, .ref b 0) :: ex, h) ∧ ∀ (j : Nat) x, i ≤ j → ag[j]? = some x → ¬ 50 ≤ x.2) ∨ C X (.loop lp9_3) [(1, .ref b 0), (6, .int .i64 i)] h = some (.ret, [(2, .bool false)], h) := fun hd hs => by
        rw [t_loop, hs, lp_norm]
        rcases ih I (by omega) (by omega) with ⟨ex, h1, h2⟩ | h1
        · refine .inl ⟨ex, h1, fun j y hj hy => ?_⟩
          by_cases hji : j = i
          · subst hji
            rw [hxi] at hy; injection hy with hy; subst hy; exact hd
          · exact h2 j y (by omega) hy
        · exact .inr h1
      clear ih hx hI
      obtain ⟨x1, x2⟩ := x
      (try simp only [agD] at *)
      by_cases d : 50 ≤ x2
      · refine hr ?_
        unfold lp9_3
        (repeat (first | rw [s_assoc] | rw [s_seq_reg (by simp [go_sem, c, z1, hv, hb, hx', hxi, d, ldx]; exact ⟨rfl, rfl⟩)] | rw [s_cnd (by simp [lk, keepEnv, Od.v, c, z1, hv, hb, hx', hxi, d, ldx]; exact rfl)] | rw [cnd_t] | rw [cnd_f] | rw [s_skip] | rw [s_ret] | rw [s_exit] | rw [C_ret] | rw [C_exit] | rw [C_skip] | rw [blk_ret] | rw [blk_norm] | rw [blk_exit] | rw [blk_exit' (by decide)] | rw [blkT_ret] | rw [blkT_norm] | rw [blkT_exit] | rw [blkT_exit' (by decide)] | rw [s_blk] | rw [s_reg (by simp [go_sem, c, z1, hv, hb, hx', hxi, d, ldx]; exact ⟨rfl, rfl⟩)] | rw [t_cnd (by simp [lk, keepEnv, Od.v, c, z1, hv, hb, hx', hxi, d, ldx]; exact rfl)] | rw [t_blk]))
        simp [keepEnv, lk]
      · refine hn d ?_
        unfold lp9_3
        (repeat (first | rw [s_assoc] | rw [s_seq_reg (by simp [go_sem, c, z1, hv, hb, hx', hxi, d, ldx]; exact ⟨rfl, rfl⟩)] | rw [s_cnd (by simp [lk, keepEnv, Od.v, c, z1, hv, hb, hx', hxi, d, ldx]; exact rfl)] | rw [cnd_t] | rw [cnd_f] | rw [s_skip] | rw [s_ret] | rw [s_exit] | rw [C_ret] | rw [C_exit] | rw [C_skip] | rw [blk_ret] | rw [blk_norm] | rw [blk_exit] | rw [blk_exit' (by decide)] | rw [blkT_ret] | rw [blkT_norm] | rw [blkT_exit] | rw [blkT_exit' (by decide)] | rw [s_blk] | rw [s_reg (by simp [go_sem, c, z1, hv, hb, hx', hxi, d, ldx]; exact ⟨rfl, rfl⟩)] | rw [t_cnd (by simp [lk, keepEnv, Od.v, c, z1, hv, hb, hx', hxi, d, ldx]; exact rfl)] | rw [t_blk]))
        simp [keepEnv, lk]
    · exact ih i (by omega) hi
/-- Columns below 50 alone. -/
def SmallQ (q : Qry) : Prop := (∀ x ∈ q.filter, x.col < 50) ∧ (∀ x ∈ q.cols, x < 50) ∧ (∀ x ∈ q.group, x < 50) ∧ ∀ x ∈ q.aggs, x.2 < 50
theorem small_of {α : Type} {l : List α} {f : α → Int} (h : ∀ (j : Nat) x, 0 ≤ j → l[j]? = some x → ¬ 50 ≤ f x) : ∀ x ∈ l, f x < 50 := fun x hx => by
  obtain ⟨j, hj⟩ := List.mem_iff_getElem?.1 hx
  have := h j x (by omega) hj
  omega
set_option maxHeartbeats 1000000 in
theorem run9s {H : Heap} {F Cn Gr Ag So : DV} {q : Qry} (v1 : ∀ G, vw (H ++ G) 8 F = some (q.filter.map N.d)) (v2 : SlI Cn q.cols) (v3 : SlI Gr q.group) (v4 : ∀ h, vw h 2 Ag = some (q.aggs.map agD)) (v5 : ∀ h, vw h 2 So = some (q.sort.map byD)) :
    ∃ bb, E X 9 [.agg (qryC F Cn Gr Ag So q.lim)] H = some (.bool bb, H) ∧ (bb = true → QV H F Cn Gr Ag So q ∧ SmallQ q) := by
  have w2 := v2.vw
  have w3 := v3.vw
  by_cases c1 : 60 < q.filter.length
  · refine ⟨false, ?_, fun h => by cases h⟩
    obtain ⟨fl, co, gr, ag, so, lim⟩ := q
    simp only [qryC] at *
    have d1 : (60 : Int) < (fl.length : Int) := by omega
    rw [E_go (X := X) _ b9 _ rfl rfl]; unfold b9; (repeat (first | rw [s_assoc] | rw [s_seq_reg (by simp [go_sem, v1, c1, d1]; exact ⟨rfl, rfl⟩)] | rw [s_cnd (by simp [lk, keepEnv, Od.v, v1, c1, d1]; exact rfl)] | rw [cnd_t] | rw [cnd_f] | rw [s_skip] | rw [s_ret] | rw [s_exit] | rw [C_ret] | rw [C_exit] | rw [C_skip] | rw [blk_ret] | rw [blk_norm] | rw [blk_exit] | rw [blk_exit' (by decide)] | rw [blkT_ret] | rw [blkT_norm] | rw [blkT_exit] | rw [blkT_exit' (by decide)] | rw [s_blk] | rw [s_reg (by simp [go_sem, v1, c1, d1]; exact ⟨rfl, rfl⟩)] | rw [t_cnd (by simp [lk, keepEnv, Od.v, v1, c1, d1]; exact rfl)] | rw [t_blk])); simp [ends_ret, ends_norm, resL, go_sem, fin, fz0, fz1, fzT, fzL, nlt, v1, c1, d1]
  by_cases c2 : 20 < q.cols.length
  · refine ⟨false, ?_, fun h => by cases h⟩
    obtain ⟨fl, co, gr, ag, so, lim⟩ := q
    simp only [qryC] at *
    have d1 : ¬ (60 : Int) < (fl.length : Int) := by omega
    have d2 : (20 : Int) < (co.length : Int) := by omega
    rw [E_go (X := X) _ b9 _ rfl rfl]; unfold b9; (repeat (first | rw [s_assoc] | rw [s_seq_reg (by simp [go_sem, v1, w2, c1, d1, c2, d2]; exact ⟨rfl, rfl⟩)] | rw [s_cnd (by simp [lk, keepEnv, Od.v, v1, w2, c1, d1, c2, d2]; exact rfl)] | rw [cnd_t] | rw [cnd_f] | rw [s_skip] | rw [s_ret] | rw [s_exit] | rw [C_ret] | rw [C_exit] | rw [C_skip] | rw [blk_ret] | rw [blk_norm] | rw [blk_exit] | rw [blk_exit' (by decide)] | rw [blkT_ret] | rw [blkT_norm] | rw [blkT_exit] | rw [blkT_exit' (by decide)] | rw [s_blk] | rw [s_reg (by simp [go_sem, v1, w2, c1, d1, c2, d2]; exact ⟨rfl, rfl⟩)] | rw [t_cnd (by simp [lk, keepEnv, Od.v, v1, w2, c1, d1, c2, d2]; exact rfl)] | rw [t_blk])); simp [ends_ret, ends_norm, resL, go_sem, fin, fz0, fz1, fzT, fzL, nlt, v1, w2, c1, d1, c2, d2]
  by_cases c3 : 20 < q.group.length
  · refine ⟨false, ?_, fun h => by cases h⟩
    obtain ⟨fl, co, gr, ag, so, lim⟩ := q
    simp only [qryC] at *
    have d1 : ¬ (60 : Int) < (fl.length : Int) := by omega
    have d2 : ¬ (20 : Int) < (co.length : Int) := by omega
    have d3 : (20 : Int) < (gr.length : Int) := by omega
    rw [E_go (X := X) _ b9 _ rfl rfl]; unfold b9; (repeat (first | rw [s_assoc] | rw [s_seq_reg (by simp [go_sem, v1, w2, w3, c1, d1, c2, d2, c3, d3]; exact ⟨rfl, rfl⟩)] | rw [s_cnd (by simp [lk, keepEnv, Od.v, v1, w2, w3, c1, d1, c2, d2, c3, d3]; exact rfl)] | rw [cnd_t] | rw [cnd_f] | rw [s_skip] | rw [s_ret] | rw [s_exit] | rw [C_ret] | rw [C_exit] | rw [C_skip] | rw [blk_ret] | rw [blk_norm] | rw [blk_exit] | rw [blk_exit' (by decide)] | rw [blkT_ret] | rw [blkT_norm] | rw [blkT_exit] | rw [blkT_exit' (by decide)] | rw [s_blk] | rw [s_reg (by simp [go_sem, v1, w2, w3, c1, d1, c2, d2, c3, d3]; exact ⟨rfl, rfl⟩)] | rw [t_cnd (by simp [lk, keepEnv, Od.v, v1, w2, w3, c1, d1, c2, d2, c3, d3]; exact rfl)] | rw [t_blk])); simp [ends_ret, ends_norm, resL, go_sem, fin, fz0, fz1, fzT, fzL, nlt, v1, w2, w3, c1, d1, c2, d2, c3, d3]
  by_cases c4 : 20 < q.aggs.length
  · refine ⟨false, ?_, fun h => by cases h⟩
    obtain ⟨fl, co, gr, ag, so, lim⟩ := q
    simp only [qryC] at *
    have d1 : ¬ (60 : Int) < (fl.length : Int) := by omega
    have d2 : ¬ (20 : Int) < (co.length : Int) := by omega
    have d3 : ¬ (20 : Int) < (gr.length : Int) := by omega
    have d4 : (20 : Int) < (ag.length : Int) := by omega
    rw [E_go (X := X) _ b9 _ rfl rfl]; unfold b9; (repeat (first | rw [s_assoc] | rw [s_seq_reg (by simp [go_sem, v1, w2, w3, v4, c1, d1, c2, d2, c3, d3, c4, d4]; exact ⟨rfl, rfl⟩)] | rw [s_cnd (by simp [lk, keepEnv, Od.v, v1, w2, w3, v4, c1, d1, c2, d2, c3, d3, c4, d4]; exact rfl)] | rw [cnd_t] | rw [cnd_f] | rw [s_skip] | rw [s_ret] | rw [s_exit] | rw [C_ret] | rw [C_exit] | rw [C_skip] | rw [blk_ret] | rw [blk_norm] | rw [blk_exit] | rw [blk_exit' (by decide)] | rw [blkT_ret] | rw [blkT_norm] | rw [blkT_exit] | rw [blkT_exit' (by decide)] | rw [s_blk] | rw [s_reg (by simp [go_sem, v1, w2, w3, v4, c1, d1, c2, d2, c3, d3, c4, d4]; exact ⟨rfl, rfl⟩)] | rw [t_cnd (by simp [lk, keepEnv, Od.v, v1, w2, w3, v4, c1, d1, c2, d2, c3, d3, c4, d4]; exact rfl)] | rw [t_blk])); simp [ends_ret, ends_norm, resL, go_sem, fin, fz0, fz1, fzT, fzL, nlt, v1, w2, w3, v4, c1, d1, c2, d2, c3, d3, c4, d4]
  by_cases c5 : 20 < q.sort.length
  · refine ⟨false, ?_, fun h => by cases h⟩
    obtain ⟨fl, co, gr, ag, so, lim⟩ := q
    simp only [qryC] at *
    have d1 : ¬ (60 : Int) < (fl.length : Int) := by omega
    have d2 : ¬ (20 : Int) < (co.length : Int) := by omega
    have d3 : ¬ (20 : Int) < (gr.length : Int) := by omega
    have d4 : ¬ (20 : Int) < (ag.length : Int) := by omega
    have d5 : (20 : Int) < (so.length : Int) := by omega
    rw [E_go (X := X) _ b9 _ rfl rfl]; unfold b9; (repeat (first | rw [s_assoc] | rw [s_seq_reg (by simp [go_sem, v1, w2, w3, v4, v5, c1, d1, c2, d2, c3, d3, c4, d4, c5, d5]; exact ⟨rfl, rfl⟩)] | rw [s_cnd (by simp [lk, keepEnv, Od.v, v1, w2, w3, v4, v5, c1, d1, c2, d2, c3, d3, c4, d4, c5, d5]; exact rfl)] | rw [cnd_t] | rw [cnd_f] | rw [s_skip] | rw [s_ret] | rw [s_exit] | rw [C_ret] | rw [C_exit] | rw [C_skip] | rw [blk_ret] | rw [blk_norm] | rw [blk_exit] | rw [blk_exit' (by decide)] | rw [blkT_ret] | rw [blkT_norm] | rw [blkT_exit] | rw [blkT_exit' (by decide)] | rw [s_blk] | rw [s_reg (by simp [go_sem, v1, w2, w3, v4, v5, c1, d1, c2, d2, c3, d3, c4, d4, c5, d5]; exact ⟨rfl, rfl⟩)] | rw [t_cnd (by simp [lk, keepEnv, Od.v, v1, w2, w3, v4, v5, c1, d1, c2, d2, c3, d3, c4, d4, c5, d5]; exact rfl)] | rw [t_blk])); simp [ends_ret, ends_norm, resL, go_sem, fin, fz0, fz1, fzT, fzL, nlt, v1, w2, w3, v4, v5, c1, d1, c2, d2, c3, d3, c4, d4, c5, d5]
  have hq : QV H F Cn Gr Ag So q := ⟨v1, v2, v3, v4, v5, by omega, by omega, by omega, by omega, by omega⟩
  have hq1 := hq.ext [.box 30 (qryC F Cn Gr Ag So q.lim)]
  have hb : (H ++ [HO.box 30 (qryC F Cn Gr Ag So q.lim)])[H.length]? = some (.box 30 (qryC F Cn Gr Ag So q.lim)) := by simp
  have l0 := loop9_0 hq1 hb q.filter.length 0 (by omega) (by omega)
  have l1 := loop9_1 hq1 hb q.cols.length 0 (by omega) (by omega)
  have l2 := loop9_2 hq1 hb q.group.length 0 (by omega) (by omega)
  have l3 := loop9_3 hq1 hb q.aggs.length 0 (by omega) (by omega)
  rw [show ((0 : Nat) : Int) = 0 from rfl] at l0 l1 l2 l3
  have d1 : ¬ (60 : Int) < (q.filter.length : Int) := by omega
  have d2 : ¬ (20 : Int) < (q.cols.length : Int) := by omega
  have d3 : ¬ (20 : Int) < (q.group.length : Int) := by omega
  have d4 : ¬ (20 : Int) < (q.aggs.length : Int) := by omega
  have d5 : ¬ (20 : Int) < (q.sort.length : Int) := by omega
  have key : ∃ bb, E X 9 [.agg (qryC F Cn Gr Ag So q.lim)] H = some (.bool bb, H) ∧ (bb = true → SmallQ q) := by
    clear hq hq1 hb
    obtain ⟨fl, co, gr, ag, so, lim⟩ := q
    simp only [qryC] at *
    rcases l0 with ⟨x0, l0, m0⟩ | l0
    · rcases l1 with ⟨x1, l1, m1⟩ | l1
      · rcases l2 with ⟨x2, l2, m2⟩ | l2
        · rcases l3 with ⟨x3, l3, m3⟩ | l3
          · refine ⟨true, ?_, fun _ => ⟨small_of (f := N.col) m0, small_of (f := fun x => x) m1, small_of (f := fun x => x) m2, small_of (f := fun x : Int × Int => x.2) m3⟩⟩
            rw [E_go (X := X) _ b9 _ rfl rfl]; unfold b9
            (repeat (first | rw [s_assoc] | rw [s_seq_reg (by simp [go_sem, v1, w2, w3, v4, v5, c1, d1, c2, d2, c3, d3, c4, d4, c5, d5]; exact ⟨rfl, rfl⟩)] | rw [s_cnd (by simp [lk, keepEnv, Od.v, v1, w2, w3, v4, v5, c1, d1, c2, d2, c3, d3, c4, d4, c5, d5]; exact rfl)] | rw [cnd_t] | rw [cnd_f] | rw [s_skip] | rw [s_ret] | rw [s_exit] | rw [C_ret] | rw [C_exit] | rw [C_skip] | rw [blk_ret] | rw [blk_norm] | rw [blk_exit] | rw [blk_exit' (by decide)] | rw [blkT_ret] | rw [blkT_norm] | rw [blkT_exit] | rw [blkT_exit' (by decide)] | rw [s_blk] | rw [s_reg (by simp [go_sem, v1, w2, w3, v4, v5, c1, d1, c2, d2, c3, d3, c4, d4, c5, d5]; exact ⟨rfl, rfl⟩)] | rw [t_cnd (by simp [lk, keepEnv, Od.v, v1, w2, w3, v4, v5, c1, d1, c2, d2, c3, d3, c4, d4, c5, d5]; exact rfl)] | rw [t_blk]))
            (try simp only [keepEnv, List.map_cons, List.map_nil, lk, reduceIte, Nat.reduceEqDiff, Nat.zero_ne_one, Nat.one_ne_zero])
            rw [l0]
            (repeat (first | rw [s_assoc] | rw [s_seq_reg (by simp [go_sem]; exact ⟨rfl, rfl⟩)] | rw [s_cnd (by simp [lk, keepEnv, Od.v]; exact rfl)] | rw [cnd_t] | rw [cnd_f] | rw [s_skip] | rw [s_ret] | rw [s_exit] | rw [C_ret] | rw [C_exit] | rw [C_skip] | rw [blk_ret] | rw [blk_norm] | rw [blk_exit] | rw [blk_exit' (by decide)] | rw [blkT_ret] | rw [blkT_norm] | rw [blkT_exit] | rw [blkT_exit' (by decide)] | rw [s_blk] | rw [s_reg (by simp [go_sem]; exact ⟨rfl, rfl⟩)] | rw [t_cnd (by simp [lk, keepEnv, Od.v]; exact rfl)] | rw [t_blk]))
            (try simp only [keepEnv, List.map_cons, List.map_nil, lk, reduceIte, Nat.reduceEqDiff, Nat.zero_ne_one, Nat.one_ne_zero])
            rw [l1]
            (repeat (first | rw [s_assoc] | rw [s_seq_reg (by simp [go_sem]; exact ⟨rfl, rfl⟩)] | rw [s_cnd (by simp [lk, keepEnv, Od.v]; exact rfl)] | rw [cnd_t] | rw [cnd_f] | rw [s_skip] | rw [s_ret] | rw [s_exit] | rw [C_ret] | rw [C_exit] | rw [C_skip] | rw [blk_ret] | rw [blk_norm] | rw [blk_exit] | rw [blk_exit' (by decide)] | rw [blkT_ret] | rw [blkT_norm] | rw [blkT_exit] | rw [blkT_exit' (by decide)] | rw [s_blk] | rw [s_reg (by simp [go_sem]; exact ⟨rfl, rfl⟩)] | rw [t_cnd (by simp [lk, keepEnv, Od.v]; exact rfl)] | rw [t_blk]))
            (try simp only [keepEnv, List.map_cons, List.map_nil, lk, reduceIte, Nat.reduceEqDiff, Nat.zero_ne_one, Nat.one_ne_zero])
            rw [l2]
            (repeat (first | rw [s_assoc] | rw [s_seq_reg (by simp [go_sem]; exact ⟨rfl, rfl⟩)] | rw [s_cnd (by simp [lk, keepEnv, Od.v]; exact rfl)] | rw [cnd_t] | rw [cnd_f] | rw [s_skip] | rw [s_ret] | rw [s_exit] | rw [C_ret] | rw [C_exit] | rw [C_skip] | rw [blk_ret] | rw [blk_norm] | rw [blk_exit] | rw [blk_exit' (by decide)] | rw [blkT_ret] | rw [blkT_norm] | rw [blkT_exit] | rw [blkT_exit' (by decide)] | rw [s_blk] | rw [s_reg (by simp [go_sem]; exact ⟨rfl, rfl⟩)] | rw [t_cnd (by simp [lk, keepEnv, Od.v]; exact rfl)] | rw [t_blk]))
            (try simp only [keepEnv, List.map_cons, List.map_nil, lk, reduceIte, Nat.reduceEqDiff, Nat.zero_ne_one, Nat.one_ne_zero])
            rw [l3]
            (repeat (first | rw [s_assoc] | rw [s_seq_reg (by simp [go_sem]; exact ⟨rfl, rfl⟩)] | rw [s_cnd (by simp [lk, keepEnv, Od.v]; exact rfl)] | rw [cnd_t] | rw [cnd_f] | rw [s_skip] | rw [s_ret] | rw [s_exit] | rw [C_ret] | rw [C_exit] | rw [C_skip] | rw [blk_ret] | rw [blk_norm] | rw [blk_exit] | rw [blk_exit' (by decide)] | rw [blkT_ret] | rw [blkT_norm] | rw [blkT_exit] | rw [blkT_exit' (by decide)] | rw [s_blk] | rw [s_reg (by simp [go_sem]; exact ⟨rfl, rfl⟩)] | rw [t_cnd (by simp [lk, keepEnv, Od.v]; exact rfl)] | rw [t_blk]))
            simp [ends_ret, ends_norm, resL, go_sem, fin, fz0, fz1, fzT, fzL, nlt]
          · refine ⟨false, ?_, fun h => by cases h⟩
            rw [E_go (X := X) _ b9 _ rfl rfl]; unfold b9
            (repeat (first | rw [s_assoc] | rw [s_seq_reg (by simp [go_sem, v1, w2, w3, v4, v5, c1, d1, c2, d2, c3, d3, c4, d4, c5, d5]; exact ⟨rfl, rfl⟩)] | rw [s_cnd (by simp [lk, keepEnv, Od.v, v1, w2, w3, v4, v5, c1, d1, c2, d2, c3, d3, c4, d4, c5, d5]; exact rfl)] | rw [cnd_t] | rw [cnd_f] | rw [s_skip] | rw [s_ret] | rw [s_exit] | rw [C_ret] | rw [C_exit] | rw [C_skip] | rw [blk_ret] | rw [blk_norm] | rw [blk_exit] | rw [blk_exit' (by decide)] | rw [blkT_ret] | rw [blkT_norm] | rw [blkT_exit] | rw [blkT_exit' (by decide)] | rw [s_blk] | rw [s_reg (by simp [go_sem, v1, w2, w3, v4, v5, c1, d1, c2, d2, c3, d3, c4, d4, c5, d5]; exact ⟨rfl, rfl⟩)] | rw [t_cnd (by simp [lk, keepEnv, Od.v, v1, w2, w3, v4, v5, c1, d1, c2, d2, c3, d3, c4, d4, c5, d5]; exact rfl)] | rw [t_blk]))
            (try simp only [keepEnv, List.map_cons, List.map_nil, lk, reduceIte, Nat.reduceEqDiff, Nat.zero_ne_one, Nat.one_ne_zero])
            rw [l0]
            (repeat (first | rw [s_assoc] | rw [s_seq_reg (by simp [go_sem]; exact ⟨rfl, rfl⟩)] | rw [s_cnd (by simp [lk, keepEnv, Od.v]; exact rfl)] | rw [cnd_t] | rw [cnd_f] | rw [s_skip] | rw [s_ret] | rw [s_exit] | rw [C_ret] | rw [C_exit] | rw [C_skip] | rw [blk_ret] | rw [blk_norm] | rw [blk_exit] | rw [blk_exit' (by decide)] | rw [blkT_ret] | rw [blkT_norm] | rw [blkT_exit] | rw [blkT_exit' (by decide)] | rw [s_blk] | rw [s_reg (by simp [go_sem]; exact ⟨rfl, rfl⟩)] | rw [t_cnd (by simp [lk, keepEnv, Od.v]; exact rfl)] | rw [t_blk]))
            (try simp only [keepEnv, List.map_cons, List.map_nil, lk, reduceIte, Nat.reduceEqDiff, Nat.zero_ne_one, Nat.one_ne_zero])
            rw [l1]
            (repeat (first | rw [s_assoc] | rw [s_seq_reg (by simp [go_sem]; exact ⟨rfl, rfl⟩)] | rw [s_cnd (by simp [lk, keepEnv, Od.v]; exact rfl)] | rw [cnd_t] | rw [cnd_f] | rw [s_skip] | rw [s_ret] | rw [s_exit] | rw [C_ret] | rw [C_exit] | rw [C_skip] | rw [blk_ret] | rw [blk_norm] | rw [blk_exit] | rw [blk_exit' (by decide)] | rw [blkT_ret] | rw [blkT_norm] | rw [blkT_exit] | rw [blkT_exit' (by decide)] | rw [s_blk] | rw [s_reg (by simp [go_sem]; exact ⟨rfl, rfl⟩)] | rw [t_cnd (by simp [lk, keepEnv, Od.v]; exact rfl)] | rw [t_blk]))
            (try simp only [keepEnv, List.map_cons, List.map_nil, lk, reduceIte, Nat.reduceEqDiff, Nat.zero_ne_one, Nat.one_ne_zero])
            rw [l2]
            (repeat (first | rw [s_assoc] | rw [s_seq_reg (by simp [go_sem]; exact ⟨rfl, rfl⟩)] | rw [s_cnd (by simp [lk, keepEnv, Od.v]; exact rfl)] | rw [cnd_t] | rw [cnd_f] | rw [s_skip] | rw [s_ret] | rw [s_exit] | rw [C_ret] | rw [C_exit] | rw [C_skip] | rw [blk_ret] | rw [blk_norm] | rw [blk_exit] | rw [blk_exit' (by decide)] | rw [blkT_ret] | rw [blkT_norm] | rw [blkT_exit] | rw [blkT_exit' (by decide)] | rw [s_blk] | rw [s_reg (by simp [go_sem]; exact ⟨rfl, rfl⟩)] | rw [t_cnd (by simp [lk, keepEnv, Od.v]; exact rfl)] | rw [t_blk]))
            (try simp only [keepEnv, List.map_cons, List.map_nil, lk, reduceIte, Nat.reduceEqDiff, Nat.zero_ne_one, Nat.one_ne_zero])
            rw [l3]
            (repeat (first | rw [s_assoc] | rw [s_seq_reg (by simp [go_sem]; exact ⟨rfl, rfl⟩)] | rw [s_cnd (by simp [lk, keepEnv, Od.v]; exact rfl)] | rw [cnd_t] | rw [cnd_f] | rw [s_skip] | rw [s_ret] | rw [s_exit] | rw [C_ret] | rw [C_exit] | rw [C_skip] | rw [blk_ret] | rw [blk_norm] | rw [blk_exit] | rw [blk_exit' (by decide)] | rw [blkT_ret] | rw [blkT_norm] | rw [blkT_exit] | rw [blkT_exit' (by decide)] | rw [s_blk] | rw [s_reg (by simp [go_sem]; exact ⟨rfl, rfl⟩)] | rw [t_cnd (by simp [lk, keepEnv, Od.v]; exact rfl)] | rw [t_blk]))
            simp [ends_ret, ends_norm, resL, go_sem, fin, fz0, fz1, fzT, fzL, nlt]
        · refine ⟨false, ?_, fun h => by cases h⟩
          rw [E_go (X := X) _ b9 _ rfl rfl]; unfold b9
          (repeat (first | rw [s_assoc] | rw [s_seq_reg (by simp [go_sem, v1, w2, w3, v4, v5, c1, d1, c2, d2, c3, d3, c4, d4, c5, d5]; exact ⟨rfl, rfl⟩)] | rw [s_cnd (by simp [lk, keepEnv, Od.v, v1, w2, w3, v4, v5, c1, d1, c2, d2, c3, d3, c4, d4, c5, d5]; exact rfl)] | rw [cnd_t] | rw [cnd_f] | rw [s_skip] | rw [s_ret] | rw [s_exit] | rw [C_ret] | rw [C_exit] | rw [C_skip] | rw [blk_ret] | rw [blk_norm] | rw [blk_exit] | rw [blk_exit' (by decide)] | rw [blkT_ret] | rw [blkT_norm] | rw [blkT_exit] | rw [blkT_exit' (by decide)] | rw [s_blk] | rw [s_reg (by simp [go_sem, v1, w2, w3, v4, v5, c1, d1, c2, d2, c3, d3, c4, d4, c5, d5]; exact ⟨rfl, rfl⟩)] | rw [t_cnd (by simp [lk, keepEnv, Od.v, v1, w2, w3, v4, v5, c1, d1, c2, d2, c3, d3, c4, d4, c5, d5]; exact rfl)] | rw [t_blk]))
          (try simp only [keepEnv, List.map_cons, List.map_nil, lk, reduceIte, Nat.reduceEqDiff, Nat.zero_ne_one, Nat.one_ne_zero])
          rw [l0]
          (repeat (first | rw [s_assoc] | rw [s_seq_reg (by simp [go_sem]; exact ⟨rfl, rfl⟩)] | rw [s_cnd (by simp [lk, keepEnv, Od.v]; exact rfl)] | rw [cnd_t] | rw [cnd_f] | rw [s_skip] | rw [s_ret] | rw [s_exit] | rw [C_ret] | rw [C_exit] | rw [C_skip] | rw [blk_ret] | rw [blk_norm] | rw [blk_exit] | rw [blk_exit' (by decide)] | rw [blkT_ret] | rw [blkT_norm] | rw [blkT_exit] | rw [blkT_exit' (by decide)] | rw [s_blk] | rw [s_reg (by simp [go_sem]; exact ⟨rfl, rfl⟩)] | rw [t_cnd (by simp [lk, keepEnv, Od.v]; exact rfl)] | rw [t_blk]))
          (try simp only [keepEnv, List.map_cons, List.map_nil, lk, reduceIte, Nat.reduceEqDiff, Nat.zero_ne_one, Nat.one_ne_zero])
          rw [l1]
          (repeat (first | rw [s_assoc] | rw [s_seq_reg (by simp [go_sem]; exact ⟨rfl, rfl⟩)] | rw [s_cnd (by simp [lk, keepEnv, Od.v]; exact rfl)] | rw [cnd_t] | rw [cnd_f] | rw [s_skip] | rw [s_ret] | rw [s_exit] | rw [C_ret] | rw [C_exit] | rw [C_skip] | rw [blk_ret] | rw [blk_norm] | rw [blk_exit] | rw [blk_exit' (by decide)] | rw [blkT_ret] | rw [blkT_norm] | rw [blkT_exit] | rw [blkT_exit' (by decide)] | rw [s_blk] | rw [s_reg (by simp [go_sem]; exact ⟨rfl, rfl⟩)] | rw [t_cnd (by simp [lk, keepEnv, Od.v]; exact rfl)] | rw [t_blk]))
          (try simp only [keepEnv, List.map_cons, List.map_nil, lk, reduceIte, Nat.reduceEqDiff, Nat.zero_ne_one, Nat.one_ne_zero])
          rw [l2]
          (repeat (first | rw [s_assoc] | rw [s_seq_reg (by simp [go_sem]; exact ⟨rfl, rfl⟩)] | rw [s_cnd (by simp [lk, keepEnv, Od.v]; exact rfl)] | rw [cnd_t] | rw [cnd_f] | rw [s_skip] | rw [s_ret] | rw [s_exit] | rw [C_ret] | rw [C_exit] | rw [C_skip] | rw [blk_ret] | rw [blk_norm] | rw [blk_exit] | rw [blk_exit' (by decide)] | rw [blkT_ret] | rw [blkT_norm] | rw [blkT_exit] | rw [blkT_exit' (by decide)] | rw [s_blk] | rw [s_reg (by simp [go_sem]; exact ⟨rfl, rfl⟩)] | rw [t_cnd (by simp [lk, keepEnv, Od.v]; exact rfl)] | rw [t_blk]))
          simp [ends_ret, ends_norm, resL, go_sem, fin, fz0, fz1, fzT, fzL, nlt]
      · refine ⟨false, ?_, fun h => by cases h⟩
        rw [E_go (X := X) _ b9 _ rfl rfl]; unfold b9
        (repeat (first | rw [s_assoc] | rw [s_seq_reg (by simp [go_sem, v1, w2, w3, v4, v5, c1, d1, c2, d2, c3, d3, c4, d4, c5, d5]; exact ⟨rfl, rfl⟩)] | rw [s_cnd (by simp [lk, keepEnv, Od.v, v1, w2, w3, v4, v5, c1, d1, c2, d2, c3, d3, c4, d4, c5, d5]; exact rfl)] | rw [cnd_t] | rw [cnd_f] | rw [s_skip] | rw [s_ret] | rw [s_exit] | rw [C_ret] | rw [C_exit] | rw [C_skip] | rw [blk_ret] | rw [blk_norm] | rw [blk_exit] | rw [blk_exit' (by decide)] | rw [blkT_ret] | rw [blkT_norm] | rw [blkT_exit] | rw [blkT_exit' (by decide)] | rw [s_blk] | rw [s_reg (by simp [go_sem, v1, w2, w3, v4, v5, c1, d1, c2, d2, c3, d3, c4, d4, c5, d5]; exact ⟨rfl, rfl⟩)] | rw [t_cnd (by simp [lk, keepEnv, Od.v, v1, w2, w3, v4, v5, c1, d1, c2, d2, c3, d3, c4, d4, c5, d5]; exact rfl)] | rw [t_blk]))
        (try simp only [keepEnv, List.map_cons, List.map_nil, lk, reduceIte, Nat.reduceEqDiff, Nat.zero_ne_one, Nat.one_ne_zero])
        rw [l0]
        (repeat (first | rw [s_assoc] | rw [s_seq_reg (by simp [go_sem]; exact ⟨rfl, rfl⟩)] | rw [s_cnd (by simp [lk, keepEnv, Od.v]; exact rfl)] | rw [cnd_t] | rw [cnd_f] | rw [s_skip] | rw [s_ret] | rw [s_exit] | rw [C_ret] | rw [C_exit] | rw [C_skip] | rw [blk_ret] | rw [blk_norm] | rw [blk_exit] | rw [blk_exit' (by decide)] | rw [blkT_ret] | rw [blkT_norm] | rw [blkT_exit] | rw [blkT_exit' (by decide)] | rw [s_blk] | rw [s_reg (by simp [go_sem]; exact ⟨rfl, rfl⟩)] | rw [t_cnd (by simp [lk, keepEnv, Od.v]; exact rfl)] | rw [t_blk]))
        (try simp only [keepEnv, List.map_cons, List.map_nil, lk, reduceIte, Nat.reduceEqDiff, Nat.zero_ne_one, Nat.one_ne_zero])
        rw [l1]
        (repeat (first | rw [s_assoc] | rw [s_seq_reg (by simp [go_sem]; exact ⟨rfl, rfl⟩)] | rw [s_cnd (by simp [lk, keepEnv, Od.v]; exact rfl)] | rw [cnd_t] | rw [cnd_f] | rw [s_skip] | rw [s_ret] | rw [s_exit] | rw [C_ret] | rw [C_exit] | rw [C_skip] | rw [blk_ret] | rw [blk_norm] | rw [blk_exit] | rw [blk_exit' (by decide)] | rw [blkT_ret] | rw [blkT_norm] | rw [blkT_exit] | rw [blkT_exit' (by decide)] | rw [s_blk] | rw [s_reg (by simp [go_sem]; exact ⟨rfl, rfl⟩)] | rw [t_cnd (by simp [lk, keepEnv, Od.v]; exact rfl)] | rw [t_blk]))
        simp [ends_ret, ends_norm, resL, go_sem, fin, fz0, fz1, fzT, fzL, nlt]
    · refine ⟨false, ?_, fun h => by cases h⟩
      rw [E_go (X := X) _ b9 _ rfl rfl]; unfold b9
      (repeat (first | rw [s_assoc] | rw [s_seq_reg (by simp [go_sem, v1, w2, w3, v4, v5, c1, d1, c2, d2, c3, d3, c4, d4, c5, d5]; exact ⟨rfl, rfl⟩)] | rw [s_cnd (by simp [lk, keepEnv, Od.v, v1, w2, w3, v4, v5, c1, d1, c2, d2, c3, d3, c4, d4, c5, d5]; exact rfl)] | rw [cnd_t] | rw [cnd_f] | rw [s_skip] | rw [s_ret] | rw [s_exit] | rw [C_ret] | rw [C_exit] | rw [C_skip] | rw [blk_ret] | rw [blk_norm] | rw [blk_exit] | rw [blk_exit' (by decide)] | rw [blkT_ret] | rw [blkT_norm] | rw [blkT_exit] | rw [blkT_exit' (by decide)] | rw [s_blk] | rw [s_reg (by simp [go_sem, v1, w2, w3, v4, v5, c1, d1, c2, d2, c3, d3, c4, d4, c5, d5]; exact ⟨rfl, rfl⟩)] | rw [t_cnd (by simp [lk, keepEnv, Od.v, v1, w2, w3, v4, v5, c1, d1, c2, d2, c3, d3, c4, d4, c5, d5]; exact rfl)] | rw [t_blk]))
      (try simp only [keepEnv, List.map_cons, List.map_nil, lk, reduceIte, Nat.reduceEqDiff, Nat.zero_ne_one, Nat.one_ne_zero])
      rw [l0]
      (repeat (first | rw [s_assoc] | rw [s_seq_reg (by simp [go_sem]; exact ⟨rfl, rfl⟩)] | rw [s_cnd (by simp [lk, keepEnv, Od.v]; exact rfl)] | rw [cnd_t] | rw [cnd_f] | rw [s_skip] | rw [s_ret] | rw [s_exit] | rw [C_ret] | rw [C_exit] | rw [C_skip] | rw [blk_ret] | rw [blk_norm] | rw [blk_exit] | rw [blk_exit' (by decide)] | rw [blkT_ret] | rw [blkT_norm] | rw [blkT_exit] | rw [blkT_exit' (by decide)] | rw [s_blk] | rw [s_reg (by simp [go_sem]; exact ⟨rfl, rfl⟩)] | rw [t_cnd (by simp [lk, keepEnv, Od.v]; exact rfl)] | rw [t_blk]))
      simp [ends_ret, ends_norm, resL, go_sem, fin, fz0, fz1, fzT, fzL, nlt]
  obtain ⟨bb, hbb, hsm⟩ := key
  exact ⟨bb, hbb, fun h => ⟨hq, hsm h⟩⟩
theorem run9 {H : Heap} {F Cn Gr Ag So : DV} {q : Qry} (v1 : ∀ G, vw (H ++ G) 8 F = some (q.filter.map N.d)) (v2 : SlI Cn q.cols) (v3 : SlI Gr q.group) (v4 : ∀ h, vw h 2 Ag = some (q.aggs.map agD)) (v5 : ∀ h, vw h 2 So = some (q.sort.map byD)) :
    ∃ bb, E X 9 [.agg (qryC F Cn Gr Ag So q.lim)] H = some (.bool bb, H) ∧ (bb = true → QV H F Cn Gr Ag So q) := by
  obtain ⟨bb, h1, h2⟩ := run9s v1 v2 v3 v4 v5
  exact ⟨bb, h1, fun h => (h2 h).1⟩
end Go.Proofs.YtobpbjmnonbblaaDoor
