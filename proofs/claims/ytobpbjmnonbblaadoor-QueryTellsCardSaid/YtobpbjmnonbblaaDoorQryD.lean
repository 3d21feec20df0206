/- Ideal runs: may a schema be; what Check calls. -/
import Derived.Test.YtobpbjmnonbblaaDoorQryC
namespace Go.Proofs.YtobpbjmnonbblaaDoor
attribute [local go_sem] evOps evOp_n evOp_r evOp_d evOp_dr kpo_refl kpo_app cnd_some cnd_pair cnd_cnd_t cnd_cnd_f cnd_same cnd_dvb cnd_and cnd_or gd_bool gd_boolf gd_tup cnd_t cnd_f evTo isCall evx put lk Od.v keepEnv enterEnv ldx_ref rdc binx binI binS unx eqk DV.isU DV.cells hget hget0 hset hset0 stx_ref splice fillp mat eqcs eqs one_bool one_int one_str one_nilp one_ref one_elem one_nils one_list one_row one_nilm one_map one_nilf one_func one_nili one_ifc one_agg one_tup one_undef one_fresh
attribute [local go_sem ↓] evx_pick
set_option linter.unusedVariables false
set_option linter.unusedSimpArgs false
set_option maxRecDepth 10000
def colOkV (s : Sch) (i : Nat) (c : Cl) : Bool := nameV c.nm && (decide (1 ≤ c.kd) && (decide (c.kd ≤ 3) && (fidx (fun x => x.nm == c.nm) s.cols 0 == (i : Int))))
def colsV (s : Sch) : List Cl → Nat → Bool
  | [], _ => true
  | c :: l, i => colOkV s i c && colsV s l (i + 1)
set_option maxHeartbeats 1000000 in
theorem body18 {h : Heap} {Cd : DV} {s : Sch} {b i I : Nat} {c : Cl} (hC : ∀ g, vw g 3 Cd = some (s.cols.map Cl.d)) (hb : h[b]? = some (.box 24 (schC Cd s))) (hl : s.cols.length ≤ 1000) (hc : s.cols[i]? = some c) (z1 : IntKind.i64.wrap ((i : Int) + 1) = (I : Int)) :
    C X lp18_0 [(1, .ref b 0), (6, Cd), (7, .int .i64 s.cols.length), (8, .int .i64 i)] h = some (if colOkV s i c = true then (.norm, [(1, .ref b 0), (6, Cd), (7, .int .i64 s.cols.length), (8, .int .i64 I)], h ++ [.box 53 c.d.cells]) else (.ret, [(2, .bool false)], h ++ [.box 53 c.d.cells])) := by
  obtain ⟨ci, hc1⟩ := List.getElem?_eq_some_iff.1 hc
  have e39 := fun g => run39 c.nm g
  have e40 := fun g => run40 hC hl c.nm g
  have hb2 : ∀ G, (h ++ G)[b]? = some (.box 24 (schC Cd s)) := fun G => by rw [List.getElem?_append_left (List.getElem?_eq_some_iff.1 hb).1]; exact hb
  cases h1 : nameV c.nm
  · have hv : colOkV s i c = false := by simp [colOkV, h1]
    rw [hv, if_neg (by simp)]
    rw [h1] at e39
    obtain ⟨cn, ck, cl⟩ := c
    obtain ⟨cols, k1, k2, k3, k4⟩ := s
    simp only [schD, schC, Cl.d] at *
    have ci : i < cols.length := ci
    clear hv h1 e40
    unfold lp18_0
    (repeat (first | rw [s_assoc] | rw [s_seq_reg (by simp [go_sem, ci, z1, hC, hc, hc1, e39, hb, hb2, ldx]; exact ⟨rfl, rfl⟩)] | rw [s_cnd (by simp [lk, keepEnv, Od.v, ci, z1, hC, hc, hc1, e39, hb, hb2, ldx]; exact rfl)] | rw [cnd_t] | rw [cnd_f] | rw [s_skip] | rw [s_ret] | rw [s_exit] | rw [C_ret] | rw [C_exit] | rw [C_skip] | rw [blk_ret] | rw [blk_norm] | rw [blk_exit] | rw [blk_exit' (by decide)] | rw [blkT_ret] | rw [blkT_norm] | rw [blkT_exit] | rw [blkT_exit' (by decide)] | rw [s_blk] | rw [s_reg (by simp [go_sem, ci, z1, hC, hc, hc1, e39, hb, hb2, ldx]; exact ⟨rfl, rfl⟩)] | rw [t_cnd (by simp [lk, keepEnv, Od.v, ci, z1, hC, hc, hc1, e39, hb, hb2, ldx]; exact rfl)] | rw [t_blk]))
    simp [keepEnv, lk, DV.cells]
  rw [h1] at e39
  by_cases h2 : 1 ≤ c.kd
  · have d2 : ¬ c.kd < 1 := by omega
    by_cases h3 : c.kd ≤ 3
    · have d3 : ¬ 3 < c.kd := by omega
      obtain ⟨r, hr⟩ : ∃ r, r = fidx (fun x : Cl => x.nm == c.nm) s.cols 0 := ⟨_, rfl⟩
      rw [← hr] at e40
      by_cases h4 : r = (i : Int)
      · have hv : colOkV s i c = true := by simp [colOkV, h1, h2, h3, ← hr, h4]
        rw [hv, if_pos rfl]
        subst h4
        obtain ⟨cn, ck, cl⟩ := c
        obtain ⟨cols, k1, k2, k3, k4⟩ := s
        simp only [schD, schC, Cl.d] at *
        have ci : i < cols.length := ci
        clear hv h1 hr
        unfold lp18_0
        (repeat (first | rw [s_assoc] | rw [s_seq_reg (by simp [go_sem, ci, z1, hC, hc, hc1, e39, e40, d2, d3, hb, hb2, ldx]; exact ⟨rfl, rfl⟩)] | rw [s_cnd (by simp [lk, keepEnv, Od.v, ci, z1, hC, hc, hc1, e39, e40, d2, d3, hb, hb2, ldx]; exact rfl)] | rw [cnd_t] | rw [cnd_f] | rw [s_skip] | rw [s_ret] | rw [s_exit] | rw [C_ret] | rw [C_exit] | rw [C_skip] | rw [blk_ret] | rw [blk_norm] | rw [blk_exit] | rw [blk_exit' (by decide)] | rw [blkT_ret] | rw [blkT_norm] | rw [blkT_exit] | rw [blkT_exit' (by decide)] | rw [s_blk] | rw [s_reg (by simp [go_sem, ci, z1, hC, hc, hc1, e39, e40, d2, d3, hb, hb2, ldx]; exact ⟨rfl, rfl⟩)] | rw [t_cnd (by simp [lk, keepEnv, Od.v, ci, z1, hC, hc, hc1, e39, e40, d2, d3, hb, hb2, ldx]; exact rfl)] | rw [t_blk]))
        simp [keepEnv, lk, DV.cells]
      · have d4 : (r != (i : Int)) = true := by simpa using h4
        have hv : colOkV s i c = false := by simp [colOkV, h1, h2, h3, ← hr, h4]
        rw [hv, if_neg (by simp)]
        obtain ⟨cn, ck, cl⟩ := c
        obtain ⟨cols, k1, k2, k3, k4⟩ := s
        simp only [schD, schC, Cl.d] at *
        have ci : i < cols.length := ci
        clear hv h1 hr
        unfold lp18_0
        (repeat (first | rw [s_assoc] | rw [s_seq_reg (by simp [go_sem, ci, z1, hC, hc, hc1, e39, e40, d2, d3, d4, h4, hb, hb2, ldx]; exact ⟨rfl, rfl⟩)] | rw [s_cnd (by simp [lk, keepEnv, Od.v, ci, z1, hC, hc, hc1, e39, e40, d2, d3, d4, h4, hb, hb2, ldx]; exact rfl)] | rw [cnd_t] | rw [cnd_f] | rw [s_skip] | rw [s_ret] | rw [s_exit] | rw [C_ret] | rw [C_exit] | rw [C_skip] | rw [blk_ret] | rw [blk_norm] | rw [blk_exit] | rw [blk_exit' (by decide)] | rw [blkT_ret] | rw [blkT_norm] | rw [blkT_exit] | rw [blkT_exit' (by decide)] | rw [s_blk] | rw [s_reg (by simp [go_sem, ci, z1, hC, hc, hc1, e39, e40, d2, d3, d4, h4, hb, hb2, ldx]; exact ⟨rfl, rfl⟩)] | rw [t_cnd (by simp [lk, keepEnv, Od.v, ci, z1, hC, hc, hc1, e39, e40, d2, d3, d4, h4, hb, hb2, ldx]; exact rfl)] | rw [t_blk]))
        simp [keepEnv, lk, DV.cells]
    · have d3 : 3 < c.kd := by omega
      have hv : colOkV s i c = false := by simp [colOkV, h3]
      rw [hv, if_neg (by simp)]
      obtain ⟨cn, ck, cl⟩ := c
      obtain ⟨cols, k1, k2, k3, k4⟩ := s
      simp only [schD, schC, Cl.d] at *
      have ci : i < cols.length := ci
      clear hv h1 e40
      unfold lp18_0
      (repeat (first | rw [s_assoc] | rw [s_seq_reg (by simp [go_sem, ci, z1, hC, hc, hc1, e39, d2, d3, hb, hb2, ldx]; exact ⟨rfl, rfl⟩)] | rw [s_cnd (by simp [lk, keepEnv, Od.v, ci, z1, hC, hc, hc1, e39, d2, d3, hb, hb2, ldx]; exact rfl)] | rw [cnd_t] | rw [cnd_f] | rw [s_skip] | rw [s_ret] | rw [s_exit] | rw [C_ret] | rw [C_exit] | rw [C_skip] | rw [blk_ret] | rw [blk_norm] | rw [blk_exit] | rw [blk_exit' (by decide)] | rw [blkT_ret] | rw [blkT_norm] | rw [blkT_exit] | rw [blkT_exit' (by decide)] | rw [s_blk] | rw [s_reg (by simp [go_sem, ci, z1, hC, hc, hc1, e39, d2, d3, hb, hb2, ldx]; exact ⟨rfl, rfl⟩)] | rw [t_cnd (by simp [lk, keepEnv, Od.v, ci, z1, hC, hc, hc1, e39, d2, d3, hb, hb2, ldx]; exact rfl)] | rw [t_blk]))
      simp [keepEnv, lk, DV.cells]
  · have d2 : c.kd < 1 := by omega
    have hv : colOkV s i c = false := by simp [colOkV, h2]
    rw [hv, if_neg (by simp)]
    obtain ⟨cn, ck, cl⟩ := c
    obtain ⟨cols, k1, k2, k3, k4⟩ := s
    simp only [schD, schC, Cl.d] at *
    have ci : i < cols.length := ci
    clear hv h1 e40
    unfold lp18_0
    (repeat (first | rw [s_assoc] | rw [s_seq_reg (by simp [go_sem, ci, z1, hC, hc, hc1, e39, d2, hb, hb2, ldx]; exact ⟨rfl, rfl⟩)] | rw [s_cnd (by simp [lk, keepEnv, Od.v, ci, z1, hC, hc, hc1, e39, d2, hb, hb2, ldx]; exact rfl)] | rw [cnd_t] | rw [cnd_f] | rw [s_skip] | rw [s_ret] | rw [s_exit] | rw [C_ret] | rw [C_exit] | rw [C_skip] | rw [blk_ret] | rw [blk_norm] | rw [blk_exit] | rw [blk_exit' (by decide)] | rw [blkT_ret] | rw [blkT_norm] | rw [blkT_exit] | rw [blkT_exit' (by decide)] | rw [s_blk] | rw [s_reg (by simp [go_sem, ci, z1, hC, hc, hc1, e39, d2, hb, hb2, ldx]; exact ⟨rfl, rfl⟩)] | rw [t_cnd (by simp [lk, keepEnv, Od.v, ci, z1, hC, hc, hc1, e39, d2, hb, hb2, ldx]; exact rfl)] | rw [t_blk]))
    simp [keepEnv, lk, DV.cells]
theorem loop18 {Cd : DV} {s : Sch} {b : Nat} (hC : ∀ g, vw g 3 Cd = some (s.cols.map Cl.d)) (hl : s.cols.length ≤ 1000) :
    ∀ (k i : Nat) (h : Heap), s.cols.length - i ≤ k → i ≤ s.cols.length → h[b]? = some (.box 24 (schC Cd s)) → (∃ ex G, C X (.loop lp18_0) [(1, .ref b 0), (6, Cd), (7, .int .i64 s.cols.length), (8, .int .i64 i)] h = some (.exit 0, (1, .ref b 0) :: ex, h ++ G) ∧ colsV s (s.cols.drop i) i = true) ∨ (∃ G, C X (.loop lp18_0) [(1, .ref b 0), (6, Cd), (7, .int .i64 s.cols.length), (8, .int .i64 i)] h = some (.ret, [(2, .bool false)], h ++ G) ∧ colsV s (s.cols.drop i) i = false) := by
  intro k
  induction k with
  | zero =>
    intro i h hk hi hb
    obtain rfl : i = s.cols.length := by omega
    refine .inl ⟨[(6, Cd), (7, .int .i64 s.cols.length), (8, .int .i64 s.cols.length), (9, .bool false)], [], ?_, by simp [colsV]⟩
    rw [t_loop]
    unfold lp18_0
    (repeat (first | rw [s_assoc] | rw [s_seq_reg (by simp [go_sem]; exact ⟨rfl, rfl⟩)] | rw [s_cnd (by simp [lk, keepEnv, Od.v]; exact rfl)] | rw [cnd_t] | rw [cnd_f] | rw [s_skip] | rw [s_ret] | rw [s_exit] | rw [C_ret] | rw [C_exit] | rw [C_skip] | rw [blk_ret] | rw [blk_norm] | rw [blk_exit] | rw [blk_exit' (by decide)] | rw [blkT_ret] | rw [blkT_norm] | rw [blkT_exit] | rw [blkT_exit' (by decide)] | rw [s_blk] | rw [s_reg (by simp [go_sem]; exact ⟨rfl, rfl⟩)] | rw [t_cnd (by simp [lk, keepEnv, Od.v]; exact rfl)] | rw [t_blk]))
    rw [lp_exit]
    simp [keepEnv, lk]
  | succ k ih =>
    intro i h hk hi hb
    by_cases c : i < s.cols.length
    · obtain ⟨I, hI⟩ : ∃ I, I = i + 1 := ⟨_, rfl⟩
      have z1 : IntKind.i64.wrap ((i : Int) + 1) = (I : Int) := (by rw [wrap64 _ (by omega) (by omega)]; omega)
      obtain ⟨x, hx⟩ : ∃ x, x = s.cols[i] := ⟨_, rfl⟩
      have hxi : s.cols[i]? = some x := by rw [hx]; exact List.getElem?_eq_getElem c
      have hd : s.cols.drop i = x :: s.cols.drop I := by rw [List.drop_eq_getElem_cons c, ← hx, hI]
      have hbd := body18 hC hb hl hxi z1
      rw [hd, colsV, t_loop, hbd]
      cases h0 : colOkV s i x
      · right
        rw [if_neg (by simp), lp_ret]
        exact ⟨_, rfl, rfl⟩
      · rw [if_pos rfl, lp_norm, ← hI, Bool.true_and]
        rcases ih I (h ++ [.box 53 x.d.cells]) (by omega) (by omega) (by rw [List.getElem?_append_left (List.getElem?_eq_some_iff.1 hb).1]; exact hb) with ⟨ex, G, h1, h2⟩ | ⟨G, h1, h2⟩
        · exact .inl ⟨ex, _, by rw [h1, List.append_assoc], h2⟩
        · exact .inr ⟨_, by rw [h1, List.append_assoc], h2⟩
    · exact ih i h (by omega) hi hb
def smayV (s : Sch) : Bool := colsV s s.cols 0 && (decide (1 ≤ s.cols.length) && (decide (s.cols.length ≤ 8) && (keyedV s && (decide (-1 ≤ s.sort) && decide (s.sort < s.cols.length)))))
set_option maxHeartbeats 1000000 in
theorem run18 {Cd : DV} {s : Sch} (hC : ∀ g, vw g 3 Cd = some (s.cols.map Cl.d)) (hl : s.cols.length ≤ 1000) (H : Heap) : E X 18 [schD Cd s] H = some (.bool (smayV s), H) := by
  have e41 := fun g => run41 hC g
  rcases loop18 (b := H.length) hC hl s.cols.length 0 (H ++ [.box 24 (schC Cd s)]) (by omega) (by omega) (by simp) with ⟨ex, G, hc, hf⟩ | ⟨G, hc, hf⟩
  · rw [List.drop_zero] at hf
    rw [show ((0 : Nat) : Int) = 0 from rfl] at hc
    have hb2 : (H ++ [HO.box 24 (schC Cd s)] ++ G)[H.length]? = some (.box 24 (schC Cd s)) := by rw [List.append_assoc]; simp
    generalize hh2 : H ++ [HO.box 24 (schC Cd s)] ++ G = h2 at hc hb2
    have hfin : ∀ bb : Bool, fin H h2 [.bool bb] = (.bool bb, H) := by
      intro bb
      have ht : h2.take H.length = H := by rw [← hh2, List.append_assoc, List.take_append_of_le_length (Nat.le_refl _)]; exact List.take_length
      simp [fin, ht, fz1, fz0]
    have key : ∀ bb, smayV s = bb → (∀ (r : DV), True) → True := fun _ _ _ => trivial
    have hm : smayV s = (decide (1 ≤ s.cols.length) && (decide (s.cols.length ≤ 8) && (keyedV s && (decide (-1 ≤ s.sort) && decide (s.sort < s.cols.length))))) := by rw [smayV, hf, Bool.true_and]
    rw [hm]
    clear hm hf hh2 key
    generalize keyedV s = kv at *
    obtain ⟨cols, k1, k2, k3, k4⟩ := s
    simp only [schD, schC] at *
    rw [E_go (X := X) _ b18 _ rfl rfl]; unfold b18
    (repeat (first | rw [s_assoc] | rw [s_seq_reg (by simp [go_sem, hC]; exact ⟨rfl, rfl⟩)] | rw [s_cnd (by simp [lk, keepEnv, Od.v, hC]; exact rfl)] | rw [cnd_t] | rw [cnd_f] | rw [s_skip] | rw [s_ret] | rw [s_exit] | rw [C_ret] | rw [C_exit] | rw [C_skip] | rw [blk_ret] | rw [blk_norm] | rw [blk_exit] | rw [blk_exit' (by decide)] | rw [blkT_ret] | rw [blkT_norm] | rw [blkT_exit] | rw [blkT_exit' (by decide)] | rw [s_blk] | rw [s_reg (by simp [go_sem, hC]; exact ⟨rfl, rfl⟩)] | rw [t_cnd (by simp [lk, keepEnv, Od.v, hC]; exact rfl)] | rw [t_blk]))
    (try simp only [keepEnv, List.map_cons, List.map_nil, lk, reduceIte, Nat.reduceEqDiff, Nat.zero_ne_one, Nat.one_ne_zero])
    rw [hc]
    by_cases c1 : 1 ≤ cols.length
    · by_cases c2 : cols.length ≤ 8
      · have d1 : (1 : Int) ≤ (cols.length : Int) := by omega
        have d2 : (cols.length : Int) ≤ 8 := by omega
        cases kv
        · (repeat (first | rw [s_assoc] | rw [s_seq_reg (by simp [go_sem, hC, hb2, c1, c2, d1, d2, e41]; exact ⟨rfl, rfl⟩)] | rw [s_cnd (by simp [lk, keepEnv, Od.v, hC, hb2, c1, c2, d1, d2, e41]; exact rfl)] | rw [cnd_t] | rw [cnd_f] | rw [s_skip] | rw [s_ret] | rw [s_exit] | rw [C_ret] | rw [C_exit] | rw [C_skip] | rw [blk_ret] | rw [blk_norm] | rw [blk_exit] | rw [blk_exit' (by decide)] | rw [blkT_ret] | rw [blkT_norm] | rw [blkT_exit] | rw [blkT_exit' (by decide)] | rw [s_blk] | rw [s_reg (by simp [go_sem, hC, hb2, c1, c2, d1, d2, e41]; exact ⟨rfl, rfl⟩)] | rw [t_cnd (by simp [lk, keepEnv, Od.v, hC, hb2, c1, c2, d1, d2, e41]; exact rfl)] | rw [t_blk]))
          rw [ends_ret]
          simp [resL, lk, keepEnv, hfin, c1, c2]
        · by_cases c3 : -1 ≤ k4
          · (repeat (first | rw [s_assoc] | rw [s_seq_reg (by simp [go_sem, hC, hb2, c1, c2, d1, d2, c3, e41]; exact ⟨rfl, rfl⟩)] | rw [s_cnd (by simp [lk, keepEnv, Od.v, hC, hb2, c1, c2, d1, d2, c3, e41]; exact rfl)] | rw [cnd_t] | rw [cnd_f] | rw [s_skip] | rw [s_ret] | rw [s_exit] | rw [C_ret] | rw [C_exit] | rw [C_skip] | rw [blk_ret] | rw [blk_norm] | rw [blk_exit] | rw [blk_exit' (by decide)] | rw [blkT_ret] | rw [blkT_norm] | rw [blkT_exit] | rw [blkT_exit' (by decide)] | rw [s_blk] | rw [s_reg (by simp [go_sem, hC, hb2, c1, c2, d1, d2, c3, e41]; exact ⟨rfl, rfl⟩)] | rw [t_cnd (by simp [lk, keepEnv, Od.v, hC, hb2, c1, c2, d1, d2, c3, e41]; exact rfl)] | rw [t_blk]))
            rw [ends_ret]
            simp [resL, lk, keepEnv, hfin, c1, c2, c3]
          · (repeat (first | rw [s_assoc] | rw [s_seq_reg (by simp [go_sem, hC, hb2, c1, c2, d1, d2, c3, e41]; exact ⟨rfl, rfl⟩)] | rw [s_cnd (by simp [lk, keepEnv, Od.v, hC, hb2, c1, c2, d1, d2, c3, e41]; exact rfl)] | rw [cnd_t] | rw [cnd_f] | rw [s_skip] | rw [s_ret] | rw [s_exit] | rw [C_ret] | rw [C_exit] | rw [C_skip] | rw [blk_ret] | rw [blk_norm] | rw [blk_exit] | rw [blk_exit' (by decide)] | rw [blkT_ret] | rw [blkT_norm] | rw [blkT_exit] | rw [blkT_exit' (by decide)] | rw [s_blk] | rw [s_reg (by simp [go_sem, hC, hb2, c1, c2, d1, d2, c3, e41]; exact ⟨rfl, rfl⟩)] | rw [t_cnd (by simp [lk, keepEnv, Od.v, hC, hb2, c1, c2, d1, d2, c3, e41]; exact rfl)] | rw [t_blk]))
            rw [ends_ret]
            simp [resL, lk, keepEnv, hfin, c1, c2, c3]
      · have d1 : (1 : Int) ≤ (cols.length : Int) := by omega
        have d2 : ¬ (cols.length : Int) ≤ 8 := by omega
        (repeat (first | rw [s_assoc] | rw [s_seq_reg (by simp [go_sem, hC, hb2, c1, c2, d1, d2]; exact ⟨rfl, rfl⟩)] | rw [s_cnd (by simp [lk, keepEnv, Od.v, hC, hb2, c1, c2, d1, d2]; exact rfl)] | rw [cnd_t] | rw [cnd_f] | rw [s_skip] | rw [s_ret] | rw [s_exit] | rw [C_ret] | rw [C_exit] | rw [C_skip] | rw [blk_ret] | rw [blk_norm] | rw [blk_exit] | rw [blk_exit' (by decide)] | rw [blkT_ret] | rw [blkT_norm] | rw [blkT_exit] | rw [blkT_exit' (by decide)] | rw [s_blk] | rw [s_reg (by simp [go_sem, hC, hb2, c1, c2, d1, d2]; exact ⟨rfl, rfl⟩)] | rw [t_cnd (by simp [lk, keepEnv, Od.v, hC, hb2, c1, c2, d1, d2]; exact rfl)] | rw [t_blk]))
        rw [ends_ret]
        simp [resL, lk, keepEnv, hfin, c1, c2]
    · have d1 : ¬ (1 : Int) ≤ (cols.length : Int) := by omega
      (repeat (first | rw [s_assoc] | rw [s_seq_reg (by simp [go_sem, hC, hb2, c1, d1]; exact ⟨rfl, rfl⟩)] | rw [s_cnd (by simp [lk, keepEnv, Od.v, hC, hb2, c1, d1]; exact rfl)] | rw [cnd_t] | rw [cnd_f] | rw [s_skip] | rw [s_ret] | rw [s_exit] | rw [C_ret] | rw [C_exit] | rw [C_skip] | rw [blk_ret] | rw [blk_norm] | rw [blk_exit] | rw [blk_exit' (by decide)] | rw [blkT_ret] | rw [blkT_norm] | rw [blkT_exit] | rw [blkT_exit' (by decide)] | rw [s_blk] | rw [s_reg (by simp [go_sem, hC, hb2, c1, d1]; exact ⟨rfl, rfl⟩)] | rw [t_cnd (by simp [lk, keepEnv, Od.v, hC, hb2, c1, d1]; exact rfl)] | rw [t_blk]))
      rw [ends_ret]
      simp [resL, lk, keepEnv, hfin, c1]
  · rw [List.drop_zero] at hf
    rw [show ((0 : Nat) : Int) = 0 from rfl] at hc
    have hm : smayV s = false := by rw [smayV, hf, Bool.false_and]
    rw [hm]
    clear hm hf
    obtain ⟨cols, k1, k2, k3, k4⟩ := s
    simp only [schD, schC] at *
    rw [E_go (X := X) _ b18 _ rfl rfl]; unfold b18
    (repeat (first | rw [s_assoc] | rw [s_seq_reg (by simp [go_sem, hC]; exact ⟨rfl, rfl⟩)] | rw [s_cnd (by simp [lk, keepEnv, Od.v, hC]; exact rfl)] | rw [cnd_t] | rw [cnd_f] | rw [s_skip] | rw [s_ret] | rw [s_exit] | rw [C_ret] | rw [C_exit] | rw [C_skip] | rw [blk_ret] | rw [blk_norm] | rw [blk_exit] | rw [blk_exit' (by decide)] | rw [blkT_ret] | rw [blkT_norm] | rw [blkT_exit] | rw [blkT_exit' (by decide)] | rw [s_blk] | rw [s_reg (by simp [go_sem, hC]; exact ⟨rfl, rfl⟩)] | rw [t_cnd (by simp [lk, keepEnv, Od.v, hC]; exact rfl)] | rw [t_blk]))
    (try simp only [keepEnv, List.map_cons, List.map_nil, lk, reduceIte, Nat.reduceEqDiff, Nat.zero_ne_one, Nat.one_ne_zero])
    rw [hc]
    (repeat (first | rw [s_assoc] | rw [s_seq_reg (by simp [go_sem]; exact ⟨rfl, rfl⟩)] | rw [s_cnd (by simp [lk, keepEnv, Od.v]; exact rfl)] | rw [cnd_t] | rw [cnd_f] | rw [s_skip] | rw [s_ret] | rw [s_exit] | rw [C_ret] | rw [C_exit] | rw [C_skip] | rw [blk_ret] | rw [blk_norm] | rw [blk_exit] | rw [blk_exit' (by decide)] | rw [blkT_ret] | rw [blkT_norm] | rw [blkT_exit] | rw [blkT_exit' (by decide)] | rw [s_blk] | rw [s_reg (by simp [go_sem]; exact ⟨rfl, rfl⟩)] | rw [t_cnd (by simp [lk, keepEnv, Od.v]; exact rfl)] | rw [t_blk]))
    simp [ends_ret, ends_norm, resL, go_sem, fin, fz0, fz1, fzT, fzL, nlt]
end Go.Proofs.YtobpbjmnonbblaaDoor
