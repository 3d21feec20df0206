/- QueryNames, in plain Lean: what a query that may be asked names; the ideal run of the law. -/
import Derived.Test.YtobpbjmnonbblaaDoorQryK
import Derived.Test.YtobpbjmnonbblaaDoorQryO
namespace Go.Proofs.YtobpbjmnonbblaaDoor
attribute [local go_sem] evOps evOp_n evOp_r evOp_d evOp_dr kpo_refl kpo_app cnd_some cnd_pair cnd_cnd_t cnd_cnd_f cnd_same cnd_dvb cnd_and cnd_or gd_bool gd_boolf gd_tup cnd_t cnd_f evTo isCall evx put lk Od.v keepEnv enterEnv ldx_ref rdc binx binI binS unx eqk DV.isU DV.cells hget hget0 hset hset0 stx_ref splice fillp mat eqcs eqs one_bool one_int one_str one_nilp one_ref one_elem one_nils one_list one_row one_nilm one_map one_nilf one_func one_nili one_ifc one_agg one_tup one_undef one_fresh
attribute [local go_sem ↓] evx_pick
set_option linter.unusedVariables false
set_option linter.unusedSimpArgs false
set_option maxRecDepth 10000
theorem cmpT_mem : ∀ {l : List Int} {z : Int}, z ∈ cmpT l ↔ z ∈ l
  | [], z => by simp [cmpT]
  | [x], z => by simp [cmpT]
  | x :: y :: l, z => by
    have ih := @cmpT_mem (y :: l) z
    rw [cmpT]
    split
    · rename_i h
      subst h
      rw [ih]; simp
    · rw [List.mem_cons, ih, List.mem_cons (a := z) (b := x)]
theorem cmpT_lt : ∀ {l : List Int}, l.Pairwise (· ≤ ·) → (cmpT l).Pairwise (· < ·)
  | [], _ => by simp [cmpT]
  | [x], _ => by simp [cmpT]
  | x :: y :: l, h => by
    obtain ⟨h1, h2⟩ := List.pairwise_cons.1 h
    have ih := cmpT_lt h2
    rw [cmpT]
    split
    · exact ih
    · rename_i hne
      refine List.pairwise_cons.2 ⟨fun z hz => ?_, ih⟩
      have hz' := cmpT_mem.1 hz
      have hy := h1 y (by simp)
      rcases List.mem_cons.1 hz' with rfl | hz'
      · omega
      · have := (List.pairwise_cons.1 h2).1 z hz'
        omega
theorem srtI_mem {l : List Int} {z : Int} : z ∈ srtI l ↔ z ∈ l := List.mem_mergeSort
theorem srtI_le (l : List Int) : (srtI l).Pairwise (· ≤ ·) := by
  have := List.pairwise_mergeSort (le := fun x y : Int => decide (x ≤ y)) (fun a b c h1 h2 => by simp at *; omega) (fun a b => by simp; omega) l
  exact this.imp (fun h => by simpa using h)
theorem usesV_mem {q : Qry} {z : Int} : z ∈ usesV q ↔ z ∈ usesL q ∧ 0 ≤ z := by
  unfold usesV
  rw [cmpT_mem, srtI_mem, fewV, List.mem_filter]
  simp
theorem usesV_lt (q : Qry) : (usesV q).Pairwise (· < ·) := cmpT_lt (srtI_le _)
theorem filt_zero {s : Sch} : ∀ {l : List N} {i j : Nat} {x : N}, filtV s l i = 0 → l[j]? = some x → nodeV s (i + j) x = 0
  | [], _, _, _, _, h => by simp at h
  | y :: l, i, j, x, h0, h => by
    rw [filtV] at h0
    split at h0
    case isFalse h1 => exact absurd h0 h1
    case isTrue h1 =>
      cases j with
      | zero => simp at h; subst h; exact h1
      | succ j =>
        have := filt_zero (i := i + 1) h0 (by simpa using h)
        rwa [show i + 1 + j = i + (j + 1) by omega] at this
theorem node_used {s : Sch} {i : Nat} {x : N} (h : nodeV s i x = 0) (hu : usedN x = true) : hasV s x.col = true := by
  unfold nodeV at h
  have hn : needsV x.ask = 1 ∨ needsV x.ask = 2 := by unfold usedN at hu; simpa using hu
  rw [if_neg (by omega), if_pos hn] at h
  cases hg : getI s.cols x.col with
  | none => rw [hg] at h; simp at h
  | some c => exact (has_some hg).1
theorem node_ahead {s : Sch} {i : Nat} {x : N} (h : nodeV s i x = 0) (h8 : 8 ≤ x.ask) : 0 ≤ x.a ∧ x.a < i := by
  unfold nodeV at h
  by_cases c1 : x.ask = 8 ∨ x.ask = 9
  · have hn : needsV x.ask = 3 := by rcases c1 with c1 | c1 <;> rw [c1] <;> rfl
    rw [hn] at h
    simp only [Int.reduceEq, if_false, or_self, if_true] at h
    split at h
    · rename_i hh
      obtain ⟨h1, _⟩ := hh
      unfold ahV at h1
      simpa using h1
    · cases h
  · by_cases c2 : x.ask = 10
    · have hn : needsV x.ask = 4 := by rw [c2]; rfl
      rw [hn] at h
      simp only [Int.reduceEq, if_false, or_self, if_true] at h
      split at h
      · rename_i h1
        unfold ahV at h1
        simpa using h1
      · cases h
    · have hn : needsV x.ask = 5 := by unfold needsV; rw [if_neg (by omega), if_neg (by omega), if_neg (by omega), if_neg (by omega), if_neg (by omega)]
      rw [if_pos hn] at h
      cases h
theorem agg_col {s : Sch} {x : Int × Int} (h : aggV s x = 0) : x.2 < 0 ∨ hasV s x.2 = true := by
  unfold aggV at h
  split at h
  · cases h
  split at h
  · omega
  cases hg : getI s.cols x.2 with
  | none => rw [hg] at h; simp at h
  | some c => exact .inr (has_some hg).1
theorem uses_has {s : Sch} {q : Qry} (h : checkV s q = 0) : ∀ z ∈ usesV q, hasV s z = true := by
  intro z hz
  obtain ⟨c1, c2, c3, c4, c5, c6, c7⟩ := check_zero h
  obtain ⟨hm, h0⟩ := usesV_mem.1 hz
  unfold usesL at hm
  rcases List.mem_append.1 hm with hm | hm
  · rcases List.mem_append.1 hm with hm | hm
    · exact c4 z hm
    · obtain ⟨x, hx, rfl⟩ := List.mem_map.1 hm
      obtain ⟨hx1, hx2⟩ := List.mem_filter.1 hx
      obtain ⟨j, hj⟩ := List.mem_iff_getElem?.1 hx1
      exact node_used (filt_zero c3 hj) hx2
  · obtain ⟨x, hx, rfl⟩ := List.mem_map.1 hm
    rcases agg_col (aggsV_zero c5 x hx) with h1 | h1
    · omega
    · exact h1
theorem loop6_0 {h : Heap} {Cd U O : DV} {s : Sch} {us : List Int} {b b1 : Nat} (hC : ∀ g, vw g 3 Cd = some (s.cols.map Cl.d)) (hb : h[b]? = some (.box 24 (schC Cd s))) (hU : vw h 1 U = some (us.map intD)) (hl : us.length ≤ 1000000) (hsl : s.cols.length ≤ 1000) (hus : ∀ z ∈ us, hasV s z = true) (hlt : us.Pairwise (· < ·)) :
    ∀ (k i : Nat), us.length - i ≤ k → i ≤ us.length → ∃ ex, C X (.loop lp6_0) [(2, .ref b 0), (3, .ref b1 0), (9, O), (10, U), (11, .int .i64 i)] h = some (.exit 0, (2, .ref b 0) :: (3, .ref b1 0) :: (9, O) :: ex, h) := by
  intro k
  induction k with
  | zero =>
    intro i hk hi
    obtain rfl : i = us.length := by omega
    refine ⟨[(10, U), (11, .int .i64 us.length), (46, .bool false)], ?_⟩
    rw [t_loop]
    unfold lp6_0
    (repeat (first | rw [s_assoc] | rw [s_seq_reg (by simp [go_sem, hU]; exact ⟨rfl, rfl⟩)] | rw [s_cnd (by simp [lk, keepEnv, Od.v, hU]; exact rfl)] | rw [cnd_t] | rw [cnd_f] | rw [s_skip] | rw [s_ret] | rw [s_exit] | rw [C_ret] | rw [C_exit] | rw [C_skip] | rw [blk_ret] | rw [blk_norm] | rw [blk_exit] | rw [blk_exit' (by decide)] | rw [blkT_ret] | rw [blkT_norm] | rw [blkT_exit] | rw [blkT_exit' (by decide)] | rw [s_blk] | rw [s_reg (by simp [go_sem, hU]; exact ⟨rfl, rfl⟩)] | rw [t_cnd (by simp [lk, keepEnv, Od.v, hU]; exact rfl)] | rw [t_blk]))
    rw [lp_exit]
    simp [keepEnv, lk]
  | succ k ih =>
    intro i hk hi
    by_cases c : i < us.length
    · obtain ⟨I, hI⟩ : ∃ I, I = i + 1 := ⟨_, rfl⟩
      have z1 : IntKind.i64.wrap ((i : Int) + 1) = (I : Int) := (by rw [wrap64 _ (by omega) (by omega)]; omega)
      obtain ⟨x, hx⟩ : ∃ x, x = us[i] := ⟨_, rfl⟩
      have hxi : us[i]? = some x := by rw [hx]; exact List.getElem?_eq_getElem c
      have hx' := hx.symm
      have hh := hus x (by rw [hx]; exact List.getElem_mem c)
      unfold hasV at hh
      simp only [Bool.and_eq_true, decide_eq_true_eq] at hh
      have n1 : ¬ x < 0 := by omega
      have n2 : ¬ (s.cols.length : Int) ≤ x := by omega
      have hs : C X lp6_0 [(2, .ref b 0), (3, .ref b1 0), (9, O), (10, U), (11, .int .i64 i)] h = some (.norm, [(2, .ref b 0), (3, .ref b1 0), (9, O), (10, U), (11, .int .i64 I)], h) := by
        by_cases h0 : i = 0
        · subst h0
          obtain rfl : I = 1 := by omega
          rw [show ((0 : Nat) : Int) = 0 from rfl] at z1
          clear ih hus hlt hx hh
          obtain ⟨cols, k1, k2, k3, k4⟩ := s
          simp only [schC, intD, Int.cast_ofNat_Int] at *
          have c' : (0 : Int) < (us.length : Int) := by omega
          have zw : IntKind.i64.wrap 1 = 1 := wrap64 _ (by omega) (by omega)
          unfold lp6_0
          (repeat (first | rw [s_assoc] | rw [s_seq_reg (by simp [go_sem, c, c', zw, z1, hU, hb, hC, hx', hxi, n1, n2, ldx]; exact ⟨rfl, rfl⟩)] | rw [s_cnd (by simp [lk, keepEnv, Od.v, c, c', zw, z1, hU, hb, hC, hx', hxi, n1, n2, ldx]; exact rfl)] | rw [cnd_t] | rw [cnd_f] | rw [s_skip] | rw [s_ret] | rw [s_exit] | rw [C_ret] | rw [C_exit] | rw [C_skip] | rw [blk_ret] | rw [blk_norm] | rw [blk_exit] | rw [blk_exit' (by decide)] | rw [blkT_ret] | rw [blkT_norm] | rw [blkT_exit] | rw [blkT_exit' (by decide)] | rw [s_blk] | rw [s_reg (by simp [go_sem, c, c', zw, z1, hU, hb, hC, hx', hxi, n1, n2, ldx]; exact ⟨rfl, rfl⟩)] | rw [t_cnd (by simp [lk, keepEnv, Od.v, c, c', zw, z1, hU, hb, hC, hx', hxi, n1, n2, ldx]; exact rfl)] | rw [t_blk]))
          simp [keepEnv, lk]
        · obtain ⟨p, hp⟩ : ∃ p, i = p + 1 := ⟨i - 1, by omega⟩
          have z2 : IntKind.i64.wrap ((i : Int) - 1) = (p : Int) := (by rw [wrap64 _ (by omega) (by omega)]; omega)
          have pl : p < us.length := by omega
          obtain ⟨y, hy⟩ : ∃ y, y = us[p] := ⟨_, rfl⟩
          have hyi : us[p]? = some y := by rw [hy]; exact List.getElem?_eq_getElem pl
          have hy' := hy.symm
          have hyx : ¬ x ≤ y := by
            have := List.pairwise_iff_getElem.1 hlt p i pl c (by omega)
            rw [← hx, ← hy] at this
            omega
          have h0' : (0 : Int) < (i : Int) := by omega
          clear ih hus hlt hx hh hy hp
          obtain ⟨cols, k1, k2, k3, k4⟩ := s
          simp only [schC, intD] at *
          have h0'' : 0 < i := by omega
          unfold lp6_0
          (repeat (first | rw [s_assoc] | rw [s_seq_reg (by simp [go_sem, c, z1, z2, hU, hb, hC, hx', hxi, hy', hyi, pl, n1, n2, hyx, h0', h0'', ldx]; exact ⟨rfl, rfl⟩)] | rw [s_cnd (by simp [lk, keepEnv, Od.v, c, z1, z2, hU, hb, hC, hx', hxi, hy', hyi, pl, n1, n2, hyx, h0', h0'', ldx]; exact rfl)] | rw [cnd_t] | rw [cnd_f] | rw [s_skip] | rw [s_ret] | rw [s_exit] | rw [C_ret] | rw [C_exit] | rw [C_skip] | rw [blk_ret] | rw [blk_norm] | rw [blk_exit] | rw [blk_exit' (by decide)] | rw [blkT_ret] | rw [blkT_norm] | rw [blkT_exit] | rw [blkT_exit' (by decide)] | rw [s_blk] | rw [s_reg (by simp [go_sem, c, z1, z2, hU, hb, hC, hx', hxi, hy', hyi, pl, n1, n2, hyx, h0', h0'', ldx]; exact ⟨rfl, rfl⟩)] | rw [t_cnd (by simp [lk, keepEnv, Od.v, c, z1, z2, hU, hb, hC, hx', hxi, hy', hyi, pl, n1, n2, hyx, h0', h0'', ldx]; exact rfl)] | rw [t_blk]))
          simp [keepEnv, lk]
      rw [t_loop, hs, lp_norm]
      exact ih I (by omega) (by omega)
    · exact ih i (by omega) hi
theorem loop6_1 {H0 : Heap} {F Cn Gr Ag So O : DV} {s : Sch} {xs : List N} {b1 : Nat} {l : Int} (hF : ∀ G, vw (H0 ++ G) 8 F = some (xs.map N.d)) (hb : H0[b1]? = some (.box 30 (qryC F Cn Gr Ag So l))) (hl : xs.length ≤ 1000000) (hah : ∀ (j : Nat) x, xs[j]? = some x → 8 ≤ x.ask → 0 ≤ x.a ∧ x.a < j) :
    ∀ (k i : Nat) (G : Heap), xs.length - i ≤ k → i ≤ xs.length → ∃ ex G', C X (.loop lp6_1) [(3, .ref b1 0), (9, O), (12, .int .i64 i)] (H0 ++ G) = some (.exit 2, (3, .ref b1 0) :: (9, O) :: ex, H0 ++ G') := by
  intro k
  induction k with
  | zero =>
    intro i G hk hi
    obtain rfl : i = xs.length := by omega
    refine ⟨[(12, .int .i64 xs.length), (84, .bool false)], G, ?_⟩
    have hb' : (H0 ++ G)[b1]? = some (.box 30 (qryC F Cn Gr Ag So l)) := by rw [List.getElem?_append_left (List.getElem?_eq_some_iff.1 hb).1]; exact hb
    simp only [qryC] at *
    rw [t_loop]
    unfold lp6_1
    (repeat (first | rw [s_assoc] | rw [s_seq_reg (by simp [go_sem, hF, hb', ldx]; exact ⟨rfl, rfl⟩)] | rw [s_cnd (by simp [lk, keepEnv, Od.v, hF, hb', ldx]; exact rfl)] | rw [cnd_t] | rw [cnd_f] | rw [s_skip] | rw [s_ret] | rw [s_exit] | rw [C_ret] | rw [C_exit] | rw [C_skip] | rw [blk_ret] | rw [blk_norm] | rw [blk_exit] | rw [blk_exit' (by decide)] | rw [blkT_ret] | rw [blkT_norm] | rw [blkT_exit] | rw [blkT_exit' (by decide)] | rw [s_blk] | rw [s_reg (by simp [go_sem, hF, hb', ldx]; exact ⟨rfl, rfl⟩)] | rw [t_cnd (by simp [lk, keepEnv, Od.v, hF, hb', ldx]; exact rfl)] | rw [t_blk]))
    rw [lp_exit]
    simp [keepEnv, lk]
  | succ k ih =>
    intro i G hk hi
    by_cases c : i < xs.length
    · obtain ⟨I, hI⟩ : ∃ I, I = i + 1 := ⟨_, rfl⟩
      have z1 : IntKind.i64.wrap ((i : Int) + 1) = (I : Int) := (by rw [wrap64 _ (by omega) (by omega)]; omega)
      obtain ⟨x, hx⟩ : ∃ x, x = xs[i] := ⟨_, rfl⟩
      have hxi : xs[i]? = some x := by rw [hx]; exact List.getElem?_eq_getElem c
      have hx' := hx.symm
      have hb' : (H0 ++ G)[b1]? = some (.box 30 (qryC F Cn Gr Ag So l)) := by rw [List.getElem?_append_left (List.getElem?_eq_some_iff.1 hb).1]; exact hb
      have ha := hah i x hxi
      have hIH := ih I (G ++ [.box 41 x.d.cells]) (by omega) (by omega)
      have hF' := hF G
      have hlen : (H0 ++ G).length = (H0 ++ G).length := rfl
      have hs : C X lp6_1 [(3, .ref b1 0), (9, O), (12, .int .i64 i)] (H0 ++ G) = some (.norm, [(3, .ref b1 0), (9, O), (12, .int .i64 I)], (H0 ++ G) ++ [.box 41 x.d.cells]) := by
        clear ih hIH hx hI hF hah hlen hb
        generalize H0 ++ G = h at *
        obtain ⟨ask, col, ⟨vk, vn, vs', vt⟩, xa, xb⟩ := x
        simp only [N.d, V.d, DV.cells, qryC] at *
        unfold lp6_1
        by_cases c8 : 8 ≤ ask
        · obtain ⟨a1, a2⟩ := ha c8
          have a1' : ¬ xa < 0 := by omega
          have a2' : ¬ (i : Int) ≤ xa := by omega
          (repeat (first | rw [s_assoc] | rw [s_seq_reg (by simp [go_sem, c, z1, hF', hb', hx', hxi, c8, a1', a2', ldx]; exact ⟨rfl, rfl⟩)] | rw [s_cnd (by simp [lk, keepEnv, Od.v, c, z1, hF', hb', hx', hxi, c8, a1', a2', ldx]; exact rfl)] | rw [cnd_t] | rw [cnd_f] | rw [s_skip] | rw [s_ret] | rw [s_exit] | rw [C_ret] | rw [C_exit] | rw [C_skip] | rw [blk_ret] | rw [blk_norm] | rw [blk_exit] | rw [blk_exit' (by decide)] | rw [blkT_ret] | rw [blkT_norm] | rw [blkT_exit] | rw [blkT_exit' (by decide)] | rw [s_blk] | rw [s_reg (by simp [go_sem, c, z1, hF', hb', hx', hxi, c8, a1', a2', ldx]; exact ⟨rfl, rfl⟩)] | rw [t_cnd (by simp [lk, keepEnv, Od.v, c, z1, hF', hb', hx', hxi, c8, a1', a2', ldx]; exact rfl)] | rw [t_blk]))
          simp [keepEnv, lk]
        · (repeat (first | rw [s_assoc] | rw [s_seq_reg (by simp [go_sem, c, z1, hF', hb', hx', hxi, c8, ldx]; exact ⟨rfl, rfl⟩)] | rw [s_cnd (by simp [lk, keepEnv, Od.v, c, z1, hF', hb', hx', hxi, c8, ldx]; exact rfl)] | rw [cnd_t] | rw [cnd_f] | rw [s_skip] | rw [s_ret] | rw [s_exit] | rw [C_ret] | rw [C_exit] | rw [C_skip] | rw [blk_ret] | rw [blk_norm] | rw [blk_exit] | rw [blk_exit' (by decide)] | rw [blkT_ret] | rw [blkT_norm] | rw [blkT_exit] | rw [blkT_exit' (by decide)] | rw [s_blk] | rw [s_reg (by simp [go_sem, c, z1, hF', hb', hx', hxi, c8, ldx]; exact ⟨rfl, rfl⟩)] | rw [t_cnd (by simp [lk, keepEnv, Od.v, c, z1, hF', hb', hx', hxi, c8, ldx]; exact rfl)] | rw [t_blk]))
          simp [keepEnv, lk]
      rw [t_loop, hs, lp_norm, List.append_assoc]
      exact hIH
    · exact ih i G (by omega) hi
set_option maxHeartbeats 4000000 in
theorem run6 {Cd F Cn Gr Ag So : DV} {s : Sch} {q : Qry} (hA : Args Cd F Cn Gr Ag So s q) : E X 6 [schD Cd s, .agg (qryC F Cn Gr Ag So q.lim)] [] = some (.bool true, []) := by
  have hC := hA.C
  have e7 := run7
  obtain ⟨b8, e8, hb8⟩ := run8 hC [.box 24 (schC Cd s), .box 30 (qryC F Cn Gr Ag So q.lim)]
  obtain ⟨b9, e9, hb9⟩ := run9 (H := [.box 24 (schC Cd s), .box 30 (qryC F Cn Gr Ag So q.lim)]) (fun G => hA.f _) hA.c hA.g hA.a hA.s
  have early : ∀ (hk : b8 = false ∨ (b8 = true ∧ b9 = false)), E X 6 [schD Cd s, .agg (qryC F Cn Gr Ag So q.lim)] [] = some (.bool true, []) := by
    intro hk
    clear hA hC hb8 hb9
    obtain ⟨cols, k1, k2, k3, k4⟩ := s
    obtain ⟨fl, co, gr, ag, so, lim⟩ := q
    simp only [schD, schC, qryC] at *
    rcases hk with rfl | ⟨rfl, rfl⟩
    · rw [E_go (X := X) _ b6 _ rfl rfl]; unfold b6; (repeat (first | rw [s_assoc] | rw [s_seq_reg (by simp [go_sem, e7, e8, e9]; exact ⟨rfl, rfl⟩)] | rw [s_cnd (by simp [lk, keepEnv, Od.v, e7, e8, e9]; exact rfl)] | rw [cnd_t] | rw [cnd_f] | rw [s_skip] | rw [s_ret] | rw [s_exit] | rw [C_ret] | rw [C_exit] | rw [C_skip] | rw [blk_ret] | rw [blk_norm] | rw [blk_exit] | rw [blk_exit' (by decide)] | rw [blkT_ret] | rw [blkT_norm] | rw [blkT_exit] | rw [blkT_exit' (by decide)] | rw [s_blk] | rw [s_reg (by simp [go_sem, e7, e8, e9]; exact ⟨rfl, rfl⟩)] | rw [t_cnd (by simp [lk, keepEnv, Od.v, e7, e8, e9]; exact rfl)] | rw [t_blk])); simp [ends_ret, ends_norm, resL, go_sem, fin, fz0, fz1, fzT, fzL, nlt, e7, e8, e9]
    · rw [E_go (X := X) _ b6 _ rfl rfl]; unfold b6; (repeat (first | rw [s_assoc] | rw [s_seq_reg (by simp [go_sem, e7, e8, e9]; exact ⟨rfl, rfl⟩)] | rw [s_cnd (by simp [lk, keepEnv, Od.v, e7, e8, e9]; exact rfl)] | rw [cnd_t] | rw [cnd_f] | rw [s_skip] | rw [s_ret] | rw [s_exit] | rw [C_ret] | rw [C_exit] | rw [C_skip] | rw [blk_ret] | rw [blk_norm] | rw [blk_exit] | rw [blk_exit' (by decide)] | rw [blkT_ret] | rw [blkT_norm] | rw [blkT_exit] | rw [blkT_exit' (by decide)] | rw [s_blk] | rw [s_reg (by simp [go_sem, e7, e8, e9]; exact ⟨rfl, rfl⟩)] | rw [t_cnd (by simp [lk, keepEnv, Od.v, e7, e8, e9]; exact rfl)] | rw [t_blk])); simp [ends_ret, ends_norm, resL, go_sem, fin, fz0, fz1, fzT, fzL, nlt, e7, e8, e9]
  cases b8
  · exact early (.inl rfl)
  cases b9
  · exact early (.inr ⟨rfl, rfl⟩)
  clear early
  have hq0 := hb9 rfl
  have hl := hb8 rfl
  clear hb8 hb9
  have hq : ∀ g, QV g F Cn Gr Ag So q := fun g => { hq0 with f := fun G => hA.f _ }
  have e10 := fun g => run10 hC (by omega) (hq g)
  have e11 := fun g => run11 hC (by omega) (hq g)
  by_cases p0 : checkV s q = 0
  case neg =>
    have p0' : (checkV s q != 0) = true := by simpa using p0
    have hov : outsV s q = [] := by unfold outsV; rw [if_pos p0]
    rw [hov] at e11
    have hcon : conD [] = .nils := rfl
    rw [hcon] at e11
    generalize checkV s q = r at *
    clear hA hC hq hl hq0
    obtain ⟨cols, k1, k2, k3, k4⟩ := s
    obtain ⟨fl, co, gr, ag, so, lim⟩ := q
    simp only [schD, schC, qryC] at *
    rw [E_go (X := X) _ b6 _ rfl rfl]; unfold b6; (repeat (first | rw [s_assoc] | rw [s_seq_reg (by simp [go_sem, e7, e8, e9, e10, e11, p0, p0', vw]; exact ⟨rfl, rfl⟩)] | rw [s_cnd (by simp [lk, keepEnv, Od.v, e7, e8, e9, e10, e11, p0, p0', vw]; exact rfl)] | rw [cnd_t] | rw [cnd_f] | rw [s_skip] | rw [s_ret] | rw [s_exit] | rw [C_ret] | rw [C_exit] | rw [C_skip] | rw [blk_ret] | rw [blk_norm] | rw [blk_exit] | rw [blk_exit' (by decide)] | rw [blkT_ret] | rw [blkT_norm] | rw [blkT_exit] | rw [blkT_exit' (by decide)] | rw [s_blk] | rw [s_reg (by simp [go_sem, e7, e8, e9, e10, e11, p0, p0', vw]; exact ⟨rfl, rfl⟩)] | rw [t_cnd (by simp [lk, keepEnv, Od.v, e7, e8, e9, e10, e11, p0, p0', vw]; exact rfl)] | rw [t_blk])); simp [ends_ret, ends_norm, resL, go_sem, fin, fz0, fz1, fzT, fzL, nlt, e7, e8, e9, e10, e11, p0, p0', vw]
  rw [p0] at e10
  have hne := outs_some p0
  rw [outs_eq p0] at e11
  have hol : ((q.cols ++ q.group).map (kindV s) ++ q.aggs.map (aggK s)).length = q.cols.length + q.group.length + q.aggs.length := by simp only [List.length_append, List.length_map]
  have hcon : conD ((q.cols ++ q.group).map (kindV s) ++ q.aggs.map (aggK s)) = .fresh 3 1 (((q.cols ++ q.group).map (kindV s) ++ q.aggs.map (aggK s)).map intD) := by unfold conD; rw [if_neg hne]
  rw [hcon] at e11
  obtain ⟨OL, hOL⟩ : ∃ OL, OL = ((q.cols ++ q.group).map (kindV s) ++ q.aggs.map (aggK s)).map intD := ⟨_, rfl⟩
  have hoL : OL.length = q.cols.length + q.group.length + q.aggs.length := by rw [hOL, List.length_map]; exact hol
  have hoL0 : 0 < OL.length := by
    rw [hOL, List.length_map]; exact List.length_pos_iff.2 hne
  rw [← hOL] at e11
  obtain ⟨H2, hH2⟩ : ∃ H2 : Heap, H2 = [.box 24 (schC Cd s), .box 30 (qryC F Cn Gr Ag So q.lim), .row 3 1 0 OL] := ⟨_, rfl⟩
  obtain ⟨d, e14, hd⟩ := run14 (hq H2)
  obtain ⟨c1, c2, c3, c4, c5, c6, c7⟩ := check_zero p0
  have hah : ∀ (j : Nat) x, q.filter[j]? = some x → 8 ≤ x.ask → 0 ≤ x.a ∧ x.a < j := fun j x hj h8 => by
    have := node_ahead (filt_zero c3 hj) h8
    rwa [Nat.zero_add] at this
  have hulen : (usesV q).length ≤ 1000000 := by
    have h1 := cmpT_le (srtI (fewV q))
    have h2 := srtI_length (fewV q)
    have h3 := List.length_filter_le (fun x : Int => !decide (x < 0)) (usesL q)
    have h4 : (usesL q).length ≤ 100000 := by
      have := hq0.nf; have := hq0.nc; have := hq0.ng; have := hq0.na
      have h5 := List.length_filter_le usedN q.filter
      unfold usesL
      simp only [List.length_append, List.length_map]
      omega
    unfold usesV
    unfold fewV at *
    omega
  have hgen : ∀ (U : DV) (G : Heap), vw (H2 ++ G) 1 U = some ((usesV q).map intD) → ∃ ex ex2 G', C X (.loop lp6_0) [(2, .ref 0 0), (3, .ref 1 0), (9, .row 2 0 0 OL.length false), (10, U), (11, .int .i64 0)] (H2 ++ G) = some (.exit 0, (2, .ref 0 0) :: (3, .ref 1 0) :: (9, .row 2 0 0 OL.length false) :: ex, H2 ++ G) ∧
      C X (.loop lp6_1) [(3, .ref 1 0), (9, .row 2 0 0 OL.length false), (12, .int .i64 0)] (H2 ++ G) = some (.exit 2, (3, .ref 1 0) :: (9, .row 2 0 0 OL.length false) :: ex2, H2 ++ G') := by
    intro U G hU
    obtain ⟨ex, h1⟩ := loop6_0 (h := H2 ++ G) (O := .row 2 0 0 OL.length false) (b := 0) (b1 := 1) hC (by rw [hH2]; rfl) hU hulen (by omega) (uses_has p0) (usesV_lt q) (usesV q).length 0 (by omega) (by omega)
    obtain ⟨ex2, G', h2⟩ := loop6_1 (H0 := H2) (O := .row 2 0 0 OL.length false) (b1 := 1) (Cn := Cn) (Gr := Gr) (Ag := Ag) (So := So) (l := q.lim) (s := s) (fun G => hA.f _) (by rw [hH2]; rfl) (by have := hq0.nf; omega) hah q.filter.length 0 G (by omega) (by omega)
    exact ⟨ex, ex2, G', h1, h2⟩
  have v2 := hq0.c.vw
  have v3 := hq0.g.vw
  have v4 := hq0.a
  have hnc := hq0.nc
  have hng := hq0.ng
  have hna := hq0.na
  obtain ⟨n1, hn1⟩ : ∃ n, n = q.cols.length + q.group.length := ⟨_, rfl⟩
  have z1 : IntKind.i64.wrap ((q.cols.length : Int) + (q.group.length : Int)) = (n1 : Int) := (by rw [wrap64 _ (by omega) (by omega)]; omega)
  have z2 : IntKind.i64.wrap ((n1 : Int) + (q.aggs.length : Int)) = (OL.length : Int) := (by rw [wrap64 _ (by omega) (by omega)]; omega)
  have hO2 : ∀ G, vw (H2 ++ G) 1 (.row 2 0 0 OL.length false) = some OL := fun G => by rw [hH2]; simp [vw]
  have hb2 : ∀ G, (H2 ++ G)[1]? = some (.box 30 (qryC F Cn Gr Ag So q.lim)) := fun G => by rw [hH2]; rfl
  have k0 : (0 : Int) < (OL.length : Int) := by omega
  have hmL : ((usesV q).map intD).length = (usesV q).length := by simp
  clear hOL hoL hol hcon hne c1 c2 c3 c4 c5 c6 c7 hah p0
  rcases hd with ⟨rfl, hu0⟩ | rfl | rfl
  · obtain ⟨ex, ex2, G', h1, h2⟩ := hgen .nils [] (by rw [hu0]; rfl)
    rw [List.append_nil] at h1 h2
    clear hgen hA hC hq hl hq0
    have hO3 := hO2 G'
    have hb3 := hb2 G'
    generalize usesV q = us at *
    generalize hGG : H2 ++ G' = HH at *
    subst hH2
    obtain ⟨cols, k1, k2, k3, k4⟩ := s
    obtain ⟨fl, co, gr, ag, so, lim⟩ := q
    simp only [schD, schC, qryC] at *
    rw [E_go (X := X) _ b6 _ rfl rfl]; unfold b6
    (repeat (first | rw [s_assoc] | rw [s_seq_reg (by simp [go_sem, e7, e8, e9, e10, e11, e14]; exact ⟨rfl, rfl⟩)] | rw [s_cnd (by simp [lk, keepEnv, Od.v, e7, e8, e9, e10, e11, e14]; exact rfl)] | rw [cnd_t] | rw [cnd_f] | rw [s_skip] | rw [s_ret] | rw [s_exit] | rw [C_ret] | rw [C_exit] | rw [C_skip] | rw [blk_ret] | rw [blk_norm] | rw [blk_exit] | rw [blk_exit' (by decide)] | rw [blkT_ret] | rw [blkT_norm] | rw [blkT_exit] | rw [blkT_exit' (by decide)] | rw [s_blk] | rw [s_reg (by simp [go_sem, e7, e8, e9, e10, e11, e14]; exact ⟨rfl, rfl⟩)] | rw [t_cnd (by simp [lk, keepEnv, Od.v, e7, e8, e9, e10, e11, e14]; exact rfl)] | rw [t_blk]))
    (try simp only [keepEnv, List.map_cons, List.map_nil, lk, reduceIte, Nat.reduceEqDiff, Nat.zero_ne_one, Nat.one_ne_zero])
    rw [h1]
    (repeat (first | rw [s_assoc] | rw [s_seq_reg (by simp [go_sem]; exact ⟨rfl, rfl⟩)] | rw [s_cnd (by simp [lk, keepEnv, Od.v]; exact rfl)] | rw [cnd_t] | rw [cnd_f] | rw [s_skip] | rw [s_ret] | rw [s_exit] | rw [C_ret] | rw [C_exit] | rw [C_skip] | rw [blk_ret] | rw [blk_norm] | rw [blk_exit] | rw [blk_exit' (by decide)] | rw [blkT_ret] | rw [blkT_norm] | rw [blkT_exit] | rw [blkT_exit' (by decide)] | rw [s_blk] | rw [s_reg (by simp [go_sem]; exact ⟨rfl, rfl⟩)] | rw [t_cnd (by simp [lk, keepEnv, Od.v]; exact rfl)] | rw [t_blk]))
    (try simp only [keepEnv, List.map_cons, List.map_nil, lk, reduceIte, Nat.reduceEqDiff, Nat.zero_ne_one, Nat.one_ne_zero])
    rw [h2]
    (repeat (first | rw [s_assoc] | rw [s_seq_reg (by simp [go_sem, hO3, hb3, v2, v3, v4, z1, z2, k0, hoL0]; exact ⟨rfl, rfl⟩)] | rw [s_cnd (by simp [lk, keepEnv, Od.v, hO3, hb3, v2, v3, v4, z1, z2, k0, hoL0]; exact rfl)] | rw [cnd_t] | rw [cnd_f] | rw [s_skip] | rw [s_ret] | rw [s_exit] | rw [C_ret] | rw [C_exit] | rw [C_skip] | rw [blk_ret] | rw [blk_norm] | rw [blk_exit] | rw [blk_exit' (by decide)] | rw [blkT_ret] | rw [blkT_norm] | rw [blkT_exit] | rw [blkT_exit' (by decide)] | rw [s_blk] | rw [s_reg (by simp [go_sem, hO3, hb3, v2, v3, v4, z1, z2, k0, hoL0]; exact ⟨rfl, rfl⟩)] | rw [t_cnd (by simp [lk, keepEnv, Od.v, hO3, hb3, v2, v3, v4, z1, z2, k0, hoL0]; exact rfl)] | rw [t_blk]))
    simp [ends_ret, ends_norm, resL, go_sem, fin, fz0, fz1, fzT, fzL, nlt, hoL0]
  · obtain ⟨ex, ex2, G', h1, h2⟩ := hgen (.row 3 0 0 (usesV q).length false) [.row 3 1 0 ((usesV q).map intD)] (by rw [hH2]; simp [vw, List.take_of_length_le])
    clear hgen hA hC hq hl hq0
    have hO3 := hO2 G'
    have hb3 := hb2 G'
    generalize usesV q = us at *
    generalize hGG : H2 ++ G' = HH at *
    subst hH2
    obtain ⟨cols, k1, k2, k3, k4⟩ := s
    obtain ⟨fl, co, gr, ag, so, lim⟩ := q
    simp only [schD, schC, qryC, List.cons_append, List.nil_append] at *
    rw [E_go (X := X) _ b6 _ rfl rfl]; unfold b6
    (repeat (first | rw [s_assoc] | rw [s_seq_reg (by simp [go_sem, e7, e8, e9, e10, e11, e14, hmL]; exact ⟨rfl, rfl⟩)] | rw [s_cnd (by simp [lk, keepEnv, Od.v, e7, e8, e9, e10, e11, e14, hmL]; exact rfl)] | rw [cnd_t] | rw [cnd_f] | rw [s_skip] | rw [s_ret] | rw [s_exit] | rw [C_ret] | rw [C_exit] | rw [C_skip] | rw [blk_ret] | rw [blk_norm] | rw [blk_exit] | rw [blk_exit' (by decide)] | rw [blkT_ret] | rw [blkT_norm] | rw [blkT_exit] | rw [blkT_exit' (by decide)] | rw [s_blk] | rw [s_reg (by simp [go_sem, e7, e8, e9, e10, e11, e14, hmL]; exact ⟨rfl, rfl⟩)] | rw [t_cnd (by simp [lk, keepEnv, Od.v, e7, e8, e9, e10, e11, e14, hmL]; exact rfl)] | rw [t_blk]))
    (try simp only [keepEnv, List.map_cons, List.map_nil, lk, reduceIte, Nat.reduceEqDiff, Nat.zero_ne_one, Nat.one_ne_zero])
    rw [h1]
    (repeat (first | rw [s_assoc] | rw [s_seq_reg (by simp [go_sem]; exact ⟨rfl, rfl⟩)] | rw [s_cnd (by simp [lk, keepEnv, Od.v]; exact rfl)] | rw [cnd_t] | rw [cnd_f] | rw [s_skip] | rw [s_ret] | rw [s_exit] | rw [C_ret] | rw [C_exit] | rw [C_skip] | rw [blk_ret] | rw [blk_norm] | rw [blk_exit] | rw [blk_exit' (by decide)] | rw [blkT_ret] | rw [blkT_norm] | rw [blkT_exit] | rw [blkT_exit' (by decide)] | rw [s_blk] | rw [s_reg (by simp [go_sem]; exact ⟨rfl, rfl⟩)] | rw [t_cnd (by simp [lk, keepEnv, Od.v]; exact rfl)] | rw [t_blk]))
    (try simp only [keepEnv, List.map_cons, List.map_nil, lk, reduceIte, Nat.reduceEqDiff, Nat.zero_ne_one, Nat.one_ne_zero])
    rw [h2]
    (repeat (first | rw [s_assoc] | rw [s_seq_reg (by simp [go_sem, hO3, hb3, v2, v3, v4, z1, z2, k0, hoL0]; exact ⟨rfl, rfl⟩)] | rw [s_cnd (by simp [lk, keepEnv, Od.v, hO3, hb3, v2, v3, v4, z1, z2, k0, hoL0]; exact rfl)] | rw [cnd_t] | rw [cnd_f] | rw [s_skip] | rw [s_ret] | rw [s_exit] | rw [C_ret] | rw [C_exit] | rw [C_skip] | rw [blk_ret] | rw [blk_norm] | rw [blk_exit] | rw [blk_exit' (by decide)] | rw [blkT_ret] | rw [blkT_norm] | rw [blkT_exit] | rw [blkT_exit' (by decide)] | rw [s_blk] | rw [s_reg (by simp [go_sem, hO3, hb3, v2, v3, v4, z1, z2, k0, hoL0]; exact ⟨rfl, rfl⟩)] | rw [t_cnd (by simp [lk, keepEnv, Od.v, hO3, hb3, v2, v3, v4, z1, z2, k0, hoL0]; exact rfl)] | rw [t_blk]))
    simp [ends_ret, ends_norm, resL, go_sem, fin, fz0, fz1, fzT, fzL, nlt, hoL0]
  · obtain ⟨ex, ex2, G', h1, h2⟩ := hgen (.list 1 ((usesV q).map intD) false) [] rfl
    rw [List.append_nil] at h1 h2
    clear hgen hA hC hq hl hq0
    have hO3 := hO2 G'
    have hb3 := hb2 G'
    generalize usesV q = us at *
    generalize hGG : H2 ++ G' = HH at *
    subst hH2
    obtain ⟨cols, k1, k2, k3, k4⟩ := s
    obtain ⟨fl, co, gr, ag, so, lim⟩ := q
    simp only [schD, schC, qryC] at *
    rw [E_go (X := X) _ b6 _ rfl rfl]; unfold b6
    (repeat (first | rw [s_assoc] | rw [s_seq_reg (by simp [go_sem, e7, e8, e9, e10, e11, e14]; exact ⟨rfl, rfl⟩)] | rw [s_cnd (by simp [lk, keepEnv, Od.v, e7, e8, e9, e10, e11, e14]; exact rfl)] | rw [cnd_t] | rw [cnd_f] | rw [s_skip] | rw [s_ret] | rw [s_exit] | rw [C_ret] | rw [C_exit] | rw [C_skip] | rw [blk_ret] | rw [blk_norm] | rw [blk_exit] | rw [blk_exit' (by decide)] | rw [blkT_ret] | rw [blkT_norm] | rw [blkT_exit] | rw [blkT_exit' (by decide)] | rw [s_blk] | rw [s_reg (by simp [go_sem, e7, e8, e9, e10, e11, e14]; exact ⟨rfl, rfl⟩)] | rw [t_cnd (by simp [lk, keepEnv, Od.v, e7, e8, e9, e10, e11, e14]; exact rfl)] | rw [t_blk]))
    (try simp only [keepEnv, List.map_cons, List.map_nil, lk, reduceIte, Nat.reduceEqDiff, Nat.zero_ne_one, Nat.one_ne_zero])
    rw [h1]
    (repeat (first | rw [s_assoc] | rw [s_seq_reg (by simp [go_sem]; exact ⟨rfl, rfl⟩)] | rw [s_cnd (by simp [lk, keepEnv, Od.v]; exact rfl)] | rw [cnd_t] | rw [cnd_f] | rw [s_skip] | rw [s_ret] | rw [s_exit] | rw [C_ret] | rw [C_exit] | rw [C_skip] | rw [blk_ret] | rw [blk_norm] | rw [blk_exit] | rw [blk_exit' (by decide)] | rw [blkT_ret] | rw [blkT_norm] | rw [blkT_exit] | rw [blkT_exit' (by decide)] | rw [s_blk] | rw [s_reg (by simp [go_sem]; exact ⟨rfl, rfl⟩)] | rw [t_cnd (by simp [lk, keepEnv, Od.v]; exact rfl)] | rw [t_blk]))
    (try simp only [keepEnv, List.map_cons, List.map_nil, lk, reduceIte, Nat.reduceEqDiff, Nat.zero_ne_one, Nat.one_ne_zero])
    rw [h2]
    (repeat (first | rw [s_assoc] | rw [s_seq_reg (by simp [go_sem, hO3, hb3, v2, v3, v4, z1, z2, k0, hoL0]; exact ⟨rfl, rfl⟩)] | rw [s_cnd (by simp [lk, keepEnv, Od.v, hO3, hb3, v2, v3, v4, z1, z2, k0, hoL0]; exact rfl)] | rw [cnd_t] | rw [cnd_f] | rw [s_skip] | rw [s_ret] | rw [s_exit] | rw [C_ret] | rw [C_exit] | rw [C_skip] | rw [blk_ret] | rw [blk_norm] | rw [blk_exit] | rw [blk_exit' (by decide)] | rw [blkT_ret] | rw [blkT_norm] | rw [blkT_exit] | rw [blkT_exit' (by decide)] | rw [s_blk] | rw [s_reg (by simp [go_sem, hO3, hb3, v2, v3, v4, z1, z2, k0, hoL0]; exact ⟨rfl, rfl⟩)] | rw [t_cnd (by simp [lk, keepEnv, Od.v, hO3, hb3, v2, v3, v4, z1, z2, k0, hoL0]; exact rfl)] | rw [t_blk]))
    simp [ends_ret, ends_norm, resL, go_sem, fin, fz0, fz1, fzT, fzL, nlt, hoL0]
end Go.Proofs.YtobpbjmnonbblaaDoor
