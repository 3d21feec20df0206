/- Ideal runs: the set of some numbers; are two sets the same. -/
import Derived.Test.YtfgnefnpfgdliaaDoorBitB
namespace Go.Proofs.YtfgnefnpfgdliaaDoor
set_option linter.unusedVariables false
set_option linter.unusedSimpArgs false
set_option maxRecDepth 10000
abbrev iD (n : Nat) : DV := .int .i64 (n : Int)
theorem putW_WB {ws : List Nat} (bw : WB ws) (i : Nat) : WB (putW ws i) := by
  have bp : WB (padW ws (i / 64 + 1)) := by
    intro x hx
    rcases List.mem_append.1 hx with hx | hx
    · exact bw x hx
    · rw [List.mem_replicate] at hx; omega
  intro x hx
  unfold putW at hx
  rcases List.mem_or_eq_of_mem_set hx with hx | rfl
  · exact bp x hx
  · exact Nat.or_lt_two_pow (n := 64) (bp.at _) (Nat.pow_lt_pow_right (by omega : 1 < 2) (by omega : i % 64 < 64))
def ofW (l : List Nat) : List Nat := l.foldl putW []
theorem loop22 {H : Heap} {A : DV} {l : List Nat} (hA : ∀ L, vw (H ++ L) 1 A = some (l.map iD)) (hl : ∀ x ∈ l, x < 65536) (hll : l.length ≤ 1000000) :
    ∀ (m i : Nat) (w : DV) (ws : List Nat) (h : Heap), l.length - i ≤ m → i ≤ l.length → WB ws → ws.length ≤ 1024 → MadeW h (H ++ [.box 34 [.nils]]) w ws →
      ∃ x ex w' h', C X (.loop lp22_0) [(2, .ref H.length 0), (3, w), (6, A), (7, .int .i64 l.length), (8, .int .i64 i)] h = some (.exit 0, (2, .ref H.length 0) :: (3, w') :: (6, A) :: (7, .int .i64 l.length) :: (8, x) :: ex, h') ∧
        MadeW h' (H ++ [.box 34 [.nils]]) w' ((l.drop i).foldl putW ws) := by
  intro m
  induction m with
  | zero =>
    intro i w ws h hm hi bw hb hM
    obtain rfl : i = l.length := by omega
    refine ⟨.int .i64 l.length, [(9, .bool false)], w, h, ?_, by simpa using hM⟩
    rw [t_loop]
    unfold lp22_0
    (repeat (first | rw [s_assoc] | rw [s_seq_reg (by simp [evOps, evOp_n, evOp_r, evOp_d, evOp_dr, kpo_refl, kpo_app, cnd_some, cnd_pair, cnd_cnd_t, cnd_cnd_f, cnd_same, cnd_dvb, cnd_and, cnd_or, ↓evx_pick, gd_bool, gd_boolf, gd_tup, cnd_t, cnd_f, evTo, isCall, evx, put, lk, Od.v, keepEnv, enterEnv, ldx_ref, rdc, binx, binI, binS, unx, eqk, DV.isU, DV.cells, hget, hget0, hset, hset0, stx_ref, splice, DV.one, fillp, mat, eqcs, eqs]; exact ⟨rfl, rfl⟩)] | rw [s_cnd (by simp [lk, keepEnv, Od.v]; exact rfl)] | rw [cnd_t] | rw [cnd_f] | rw [s_skip] | rw [s_ret] | rw [s_exit] | rw [C_ret] | rw [C_exit] | rw [C_skip] | rw [blk_ret] | rw [blk_norm] | rw [blk_exit] | rw [blk_exit' (by decide)] | rw [blkT_ret] | rw [blkT_norm] | rw [blkT_exit] | rw [blkT_exit' (by decide)] | rw [s_blk] | rw [s_reg (by simp [evOps, evOp_n, evOp_r, evOp_d, evOp_dr, kpo_refl, kpo_app, cnd_some, cnd_pair, cnd_cnd_t, cnd_cnd_f, cnd_same, cnd_dvb, cnd_and, cnd_or, ↓evx_pick, gd_bool, gd_boolf, gd_tup, cnd_t, cnd_f, evTo, isCall, evx, put, lk, Od.v, keepEnv, enterEnv, ldx_ref, rdc, binx, binI, binS, unx, eqk, DV.isU, DV.cells, hget, hget0, hset, hset0, stx_ref, splice, DV.one, fillp, mat, eqcs, eqs]; exact ⟨rfl, rfl⟩)] | rw [t_cnd (by simp [lk, keepEnv, Od.v]; exact rfl)] | rw [t_blk]))
    rw [lp_exit]
    simp [keepEnv, lk]
  | succ m ih =>
    intro i w ws h hm hi bw hb hM
    by_cases c1 : i < l.length
    · obtain ⟨I, hI⟩ : ∃ I, I = i + 1 := ⟨_, rfl⟩
      have w1 : IntKind.i64.wrap ((i : Int) + 1) = (I : Int) := (by rw [wrap64 _ (by omega) (by omega)]; omega)
      have hx : l[i] < 65536 := hl _ (List.getElem_mem _)
      have hd : l.drop i = l[i] :: l.drop I := by rw [hI]; exact List.drop_eq_getElem_cons c1
      obtain ⟨L, hL⟩ : ∃ L, h = H ++ L := by
        rcases hM with ⟨_, _, rfl⟩ | ⟨g, _, rfl⟩
        · exact ⟨_, rfl⟩
        · exact ⟨_, List.append_assoc _ _ _⟩
      have hv : vw h 1 A = some (l.map iD) := by rw [hL]; exact hA _
      have c2 := run42 (l[i] : Int)
      have d1 : decide ((0 : Int) ≤ l[i]) = true := by simp
      have d2 : decide ((l[i] : Int) < 65536) = true := by simp; omega
      rw [d1, d2, Bool.and_self] at c2
      have hg : (l.map iD)[i]? = some (iD l[i]) := by simp [List.getElem?_eq_getElem c1]
      obtain ⟨w', h', hc, hM'⟩ : ∃ w' h', C X lp22_0 [(2, .ref H.length 0), (3, w), (6, A), (7, .int .i64 l.length), (8, .int .i64 i)] h = some (.norm, [(2, .ref H.length 0), (3, w'), (6, A), (7, .int .i64 l.length), (8, .int .i64 I)], h') ∧ MadeW h' (H ++ [.box 34 [.nils]]) w' (putW ws l[i]) := by
        clear ih
        rcases hM with ⟨rfl, rfl, rfl⟩ | ⟨g, rfl, rfl⟩
        · have e1 := run43a l[i] hx (H ++ [.box 34 [.nils]])
          generalize hq : putW [] l[i] = q at *
          refine ⟨.row (H ++ [HO.box 34 [.nils]]).length 0 0 q.length false, H ++ [.box 34 [.nils]] ++ [.row 77 1 0 (q.map uD)], ?_, .inr ⟨0, rfl, rfl⟩⟩
          unfold lp22_0
          (repeat (first | rw [s_assoc] | rw [s_seq_reg (by simp [evOps, evOp_n, evOp_r, evOp_d, evOp_dr, kpo_refl, kpo_app, cnd_some, cnd_pair, cnd_cnd_t, cnd_cnd_f, cnd_same, cnd_dvb, cnd_and, cnd_or, ↓evx_pick, gd_bool, gd_boolf, gd_tup, cnd_t, cnd_f, evTo, isCall, evx, put, lk, Od.v, keepEnv, enterEnv, ldx_ref, rdc, binx, binI, binS, unx, eqk, DV.isU, DV.cells, hget, hget0, hset, hset0, stx_ref, splice, DV.one, fillp, mat, eqcs, eqs, c1, w1, hv, hg, ldx, c2, e1]; exact ⟨rfl, rfl⟩)] | rw [s_cnd (by simp [lk, keepEnv, Od.v, c1, w1, hv, hg, ldx, c2, e1]; exact rfl)] | rw [cnd_t] | rw [cnd_f] | rw [s_skip] | rw [s_ret] | rw [s_exit] | rw [C_ret] | rw [C_exit] | rw [C_skip] | rw [blk_ret] | rw [blk_norm] | rw [blk_exit] | rw [blk_exit' (by decide)] | rw [blkT_ret] | rw [blkT_norm] | rw [blkT_exit] | rw [blkT_exit' (by decide)] | rw [s_blk] | rw [s_reg (by simp [evOps, evOp_n, evOp_r, evOp_d, evOp_dr, kpo_refl, kpo_app, cnd_some, cnd_pair, cnd_cnd_t, cnd_cnd_f, cnd_same, cnd_dvb, cnd_and, cnd_or, ↓evx_pick, gd_bool, gd_boolf, gd_tup, cnd_t, cnd_f, evTo, isCall, evx, put, lk, Od.v, keepEnv, enterEnv, ldx_ref, rdc, binx, binI, binS, unx, eqk, DV.isU, DV.cells, hget, hget0, hset, hset0, stx_ref, splice, DV.one, fillp, mat, eqcs, eqs, c1, w1, hv, hg, ldx, c2, e1]; exact ⟨rfl, rfl⟩)] | rw [t_cnd (by simp [lk, keepEnv, Od.v, c1, w1, hv, hg, ldx, c2, e1]; exact rfl)] | rw [t_blk]))
          simp [keepEnv, lk]
        · obtain ⟨g', e1⟩ := run43b (g := g) bw l[i] hx (by omega) (H ++ [.box 34 [.nils]])
          generalize hq : putW ws l[i] = q at *
          refine ⟨.row (H ++ [HO.box 34 [.nils]]).length g' 0 q.length false, H ++ [.box 34 [.nils]] ++ [.row 77 1 g' (q.map uD)], ?_, .inr ⟨g', rfl, rfl⟩⟩
          generalize hh : H ++ [HO.box 34 [.nils]] ++ [.row 77 1 g (ws.map uD)] = h1 at *
          generalize hh2 : H ++ [HO.box 34 [.nils]] ++ [.row 77 1 g' (q.map uD)] = h2 at *
          generalize (H ++ [HO.box 34 [.nils]]).length = o at *
          unfold lp22_0
          (repeat (first | rw [s_assoc] | rw [s_seq_reg (by simp [evOps, evOp_n, evOp_r, evOp_d, evOp_dr, kpo_refl, kpo_app, cnd_some, cnd_pair, cnd_cnd_t, cnd_cnd_f, cnd_same, cnd_dvb, cnd_and, cnd_or, ↓evx_pick, gd_bool, gd_boolf, gd_tup, cnd_t, cnd_f, evTo, isCall, evx, put, lk, Od.v, keepEnv, enterEnv, ldx_ref, rdc, binx, binI, binS, unx, eqk, DV.isU, DV.cells, hget, hget0, hset, hset0, stx_ref, splice, DV.one, fillp, mat, eqcs, eqs, c1, w1, hv, hg, ldx, c2, e1]; exact ⟨rfl, rfl⟩)] | rw [s_cnd (by simp [lk, keepEnv, Od.v, c1, w1, hv, hg, ldx, c2, e1]; exact rfl)] | rw [cnd_t] | rw [cnd_f] | rw [s_skip] | rw [s_ret] | rw [s_exit] | rw [C_ret] | rw [C_exit] | rw [C_skip] | rw [blk_ret] | rw [blk_norm] | rw [blk_exit] | rw [blk_exit' (by decide)] | rw [blkT_ret] | rw [blkT_norm] | rw [blkT_exit] | rw [blkT_exit' (by decide)] | rw [s_blk] | rw [s_reg (by simp [evOps, evOp_n, evOp_r, evOp_d, evOp_dr, kpo_refl, kpo_app, cnd_some, cnd_pair, cnd_cnd_t, cnd_cnd_f, cnd_same, cnd_dvb, cnd_and, cnd_or, ↓evx_pick, gd_bool, gd_boolf, gd_tup, cnd_t, cnd_f, evTo, isCall, evx, put, lk, Od.v, keepEnv, enterEnv, ldx_ref, rdc, binx, binI, binS, unx, eqk, DV.isU, DV.cells, hget, hget0, hset, hset0, stx_ref, splice, DV.one, fillp, mat, eqcs, eqs, c1, w1, hv, hg, ldx, c2, e1]; exact ⟨rfl, rfl⟩)] | rw [t_cnd (by simp [lk, keepEnv, Od.v, c1, w1, hv, hg, ldx, c2, e1]; exact rfl)] | rw [t_blk]))
          simp [keepEnv, lk]
      rw [t_loop, hc, lp_norm, hd, List.foldl_cons]
      exact ih I w' _ h' (by omega) (by omega) (putW_WB bw _) (by rw [putW_len]; omega) hM'
    · exact ih i w ws h (by omega) hi bw hb hM

theorem fin_made {H h : Heap} {w : DV} {ws : List Nat} (hm : MadeW h (H ++ [.box 34 [w]]) w ws) : ∃ W, fin H h [.agg [w]] = (.agg [W], H) ∧ WL W ws := by
  rcases hm with ⟨rfl, rfl, rfl⟩ | ⟨g, hw, rfl⟩
  · refine ⟨.nils, ?_, .inr ⟨rfl, rfl⟩⟩
    simp only [fin]
    rw [if_pos List.take_left]
    simp [fz1, fzL, fz0]
  · have hw' : w = .row (H.length + 1) g 0 ws.length false := by simpa using hw
    clear hw
    subst hw'
    refine ⟨_, ?_, .inl rfl⟩
    have q1 : ∀ y ∈ ws.map uD, Nr y := by intro y hy; obtain ⟨z, _, rfl⟩ := List.mem_map.1 hy; exact .int _ _
    simp only [fin]
    rw [if_pos (by rw [List.append_assoc, List.take_left])]
    simp only [fz1, fzL]
    rw [fz0, if_neg (by simp), List.append_assoc, hget]
    simp only [List.cons_append, List.nil_append, List.getElem?_cons_succ, List.getElem?_cons_zero]
    rw [if_pos ⟨rfl, by simp, q1⟩, if_neg (by simp)]
    simp [List.take_of_length_le]
theorem foldl_WB : ∀ (l ws : List Nat), WB ws → WB (l.foldl putW ws)
  | [], ws, h => h
  | x :: l, ws, h => foldl_WB l _ (putW_WB h x)
theorem ofW_WB (l : List Nat) : WB (ofW l) := foldl_WB l [] (by intro x hx; cases hx)
theorem run22 {A : DV} {l : List Nat} {H : Heap} (hA : ∀ L, vw (H ++ L) 1 A = some (l.map iD)) (hl : ∀ x ∈ l, x < 65536) (hll : l.length ≤ 1000000) : ∃ W, E X 22 [A] H = some (.agg [W], H) ∧ WL W (ofW l) := by
  obtain ⟨x, ex, w', h', c1, hM⟩ := loop22 hA hl hll l.length 0 .nils [] (H ++ [.box 34 [.nils]]) (by omega) (by omega) (by intro x hx; cases hx) (by simp) (.inl ⟨rfl, rfl, rfl⟩)
  rw [List.drop_zero] at hM
  have hM' : MadeW (h'.set H.length (.box 34 [w'])) (H ++ [.box 34 [w']]) w' (ofW l) := by
    rcases hM with ⟨a1, a2, rfl⟩ | ⟨g, a1, rfl⟩
    · exact .inl ⟨a1, a2, by simp [hset0]⟩
    · exact .inr ⟨g, by rw [a1]; simp [ofW], by rw [List.append_assoc, hset0]; simp [ofW]⟩
  have g1 : h'[H.length]? = some (.box 34 [.nils]) := by
    rcases hM with ⟨a1, a2, rfl⟩ | ⟨g, a1, rfl⟩
    · simp [hget0]
    · rw [List.append_assoc, hget0]; rfl
  have g2 : w' = .nils ∨ ∃ o g n, w' = .row o g 0 n false := by
    rcases hM with ⟨rfl, a2, rfl⟩ | ⟨g, rfl, rfl⟩
    · exact .inl rfl
    · exact .inr ⟨_, _, _, rfl⟩
  obtain ⟨W, hf, hW⟩ := fin_made hM'
  have hv := hA [.box 34 [.nils]]
  refine ⟨W, ?_, hW⟩
  rw [show ((0 : Nat) : Int) = 0 from rfl] at c1
  unfold lp22_0 at c1
  rw [E_go (X := X) _ b22 _ rfl rfl]; unfold b22
  (repeat (first | rw [s_assoc] | rw [s_seq_reg (by simp [evOps, evOp_n, evOp_r, evOp_d, evOp_dr, kpo_refl, kpo_app, cnd_some, cnd_pair, cnd_cnd_t, cnd_cnd_f, cnd_same, cnd_dvb, cnd_and, cnd_or, ↓evx_pick, gd_bool, gd_boolf, gd_tup, cnd_t, cnd_f, evTo, isCall, evx, put, lk, Od.v, keepEnv, enterEnv, ldx_ref, rdc, binx, binI, binS, unx, eqk, DV.isU, DV.cells, hget, hget0, hset, hset0, stx_ref, splice, DV.one, fillp, mat, eqcs, eqs, hv]; exact ⟨rfl, rfl⟩)] | rw [s_cnd (by simp [lk, keepEnv, Od.v, hv]; exact rfl)] | rw [cnd_t] | rw [cnd_f] | rw [s_skip] | rw [s_ret] | rw [s_exit] | rw [C_ret] | rw [C_exit] | rw [C_skip] | rw [blk_ret] | rw [blk_norm] | rw [blk_exit] | rw [blk_exit' (by decide)] | rw [blkT_ret] | rw [blkT_norm] | rw [blkT_exit] | rw [blkT_exit' (by decide)] | rw [s_blk] | rw [s_reg (by simp [evOps, evOp_n, evOp_r, evOp_d, evOp_dr, kpo_refl, kpo_app, cnd_some, cnd_pair, cnd_cnd_t, cnd_cnd_f, cnd_same, cnd_dvb, cnd_and, cnd_or, ↓evx_pick, gd_bool, gd_boolf, gd_tup, cnd_t, cnd_f, evTo, isCall, evx, put, lk, Od.v, keepEnv, enterEnv, ldx_ref, rdc, binx, binI, binS, unx, eqk, DV.isU, DV.cells, hget, hget0, hset, hset0, stx_ref, splice, DV.one, fillp, mat, eqcs, eqs, hv]; exact ⟨rfl, rfl⟩)] | rw [t_cnd (by simp [lk, keepEnv, Od.v, hv]; exact rfl)] | rw [t_blk]))
  (try simp only [keepEnv, List.map_cons, List.map_nil, lk, reduceIte, Nat.reduceEqDiff, Nat.zero_ne_one, Nat.one_ne_zero])
  rw [c1]
  have g3 : (h'.set H.length (.box 34 [w']))[H.length]? = some (.box 34 [w']) := List.getElem?_set_self (List.getElem?_eq_some_iff.1 g1).1
  clear hM hM'
  rcases g2 with rfl | ⟨o, g, n, rfl⟩
  · (repeat (first | rw [s_assoc] | rw [s_seq_reg (by simp [evOps, evOp_n, evOp_r, evOp_d, evOp_dr, kpo_refl, kpo_app, cnd_some, cnd_pair, cnd_cnd_t, cnd_cnd_f, cnd_same, cnd_dvb, cnd_and, cnd_or, ↓evx_pick, gd_bool, gd_boolf, gd_tup, cnd_t, cnd_f, evTo, isCall, evx, put, lk, Od.v, keepEnv, enterEnv, ldx_ref, rdc, binx, binI, binS, unx, eqk, DV.isU, DV.cells, hget, hget0, hset, hset0, stx_ref, splice, DV.one, fillp, mat, eqcs, eqs, g1]; exact ⟨rfl, rfl⟩)] | rw [s_cnd (by simp [lk, keepEnv, Od.v, g1]; exact rfl)] | rw [cnd_t] | rw [cnd_f] | rw [s_skip] | rw [s_ret] | rw [s_exit] | rw [C_ret] | rw [C_exit] | rw [C_skip] | rw [blk_ret] | rw [blk_norm] | rw [blk_exit] | rw [blk_exit' (by decide)] | rw [blkT_ret] | rw [blkT_norm] | rw [blkT_exit] | rw [blkT_exit' (by decide)] | rw [s_blk] | rw [s_reg (by simp [evOps, evOp_n, evOp_r, evOp_d, evOp_dr, kpo_refl, kpo_app, cnd_some, cnd_pair, cnd_cnd_t, cnd_cnd_f, cnd_same, cnd_dvb, cnd_and, cnd_or, ↓evx_pick, gd_bool, gd_boolf, gd_tup, cnd_t, cnd_f, evTo, isCall, evx, put, lk, Od.v, keepEnv, enterEnv, ldx_ref, rdc, binx, binI, binS, unx, eqk, DV.isU, DV.cells, hget, hget0, hset, hset0, stx_ref, splice, DV.one, fillp, mat, eqcs, eqs, g1]; exact ⟨rfl, rfl⟩)] | rw [t_cnd (by simp [lk, keepEnv, Od.v, g1]; exact rfl)] | rw [t_blk]))
    simp [ends_norm, ends_ret, resL, keepEnv, lk, ldx_ref, g3, rdc]
    exact hf
  · (repeat (first | rw [s_assoc] | rw [s_seq_reg (by simp [evOps, evOp_n, evOp_r, evOp_d, evOp_dr, kpo_refl, kpo_app, cnd_some, cnd_pair, cnd_cnd_t, cnd_cnd_f, cnd_same, cnd_dvb, cnd_and, cnd_or, ↓evx_pick, gd_bool, gd_boolf, gd_tup, cnd_t, cnd_f, evTo, isCall, evx, put, lk, Od.v, keepEnv, enterEnv, ldx_ref, rdc, binx, binI, binS, unx, eqk, DV.isU, DV.cells, hget, hget0, hset, hset0, stx_ref, splice, DV.one, fillp, mat, eqcs, eqs, g1]; exact ⟨rfl, rfl⟩)] | rw [s_cnd (by simp [lk, keepEnv, Od.v, g1]; exact rfl)] | rw [cnd_t] | rw [cnd_f] | rw [s_skip] | rw [s_ret] | rw [s_exit] | rw [C_ret] | rw [C_exit] | rw [C_skip] | rw [blk_ret] | rw [blk_norm] | rw [blk_exit] | rw [blk_exit' (by decide)] | rw [blkT_ret] | rw [blkT_norm] | rw [blkT_exit] | rw [blkT_exit' (by decide)] | rw [s_blk] | rw [s_reg (by simp [evOps, evOp_n, evOp_r, evOp_d, evOp_dr, kpo_refl, kpo_app, cnd_some, cnd_pair, cnd_cnd_t, cnd_cnd_f, cnd_same, cnd_dvb, cnd_and, cnd_or, ↓evx_pick, gd_bool, gd_boolf, gd_tup, cnd_t, cnd_f, evTo, isCall, evx, put, lk, Od.v, keepEnv, enterEnv, ldx_ref, rdc, binx, binI, binS, unx, eqk, DV.isU, DV.cells, hget, hget0, hset, hset0, stx_ref, splice, DV.one, fillp, mat, eqcs, eqs, g1]; exact ⟨rfl, rfl⟩)] | rw [t_cnd (by simp [lk, keepEnv, Od.v, g1]; exact rfl)] | rw [t_blk]))
    simp [ends_norm, ends_ret, resL, keepEnv, lk, ldx_ref, g3, rdc]
    exact hf
theorem loop18 {H : Heap} {p q n : Nat} {W T : DV} {ws ts : List Nat} (hp : H[p]? = some (.box 34 [W])) (hq : H[q]? = some (.box 34 [T])) (hW : WL W ws) (hT : WL T ts) (hn : n ≤ 1000000) (hs : ∀ k, k < n → at_ ws k = at_ ts k) :
    ∀ (m i : Nat), n - i ≤ m → i ≤ n → ∃ x ex, C X (.loop lp18_0) [(2, .ref p 0), (3, .ref q 0), (12, .int .i64 n), (13, .int .i64 i)] H = some (.exit 0, (2, .ref p 0) :: (3, .ref q 0) :: (12, .int .i64 n) :: (13, x) :: ex, H) := by
  intro m
  induction m with
  | zero =>
    intro i hm hi
    obtain rfl : i = n := by omega
    refine ⟨.int .i64 i, [(14, .bool false)], ?_⟩
    rw [t_loop]
    unfold lp18_0
    (repeat (first | rw [s_assoc] | rw [s_seq_reg (by simp [evOps, evOp_n, evOp_r, evOp_d, evOp_dr, kpo_refl, kpo_app, cnd_some, cnd_pair, cnd_cnd_t, cnd_cnd_f, cnd_same, cnd_dvb, cnd_and, cnd_or, ↓evx_pick, gd_bool, gd_boolf, gd_tup, cnd_t, cnd_f, evTo, isCall, evx, put, lk, Od.v, keepEnv, enterEnv, ldx_ref, rdc, binx, binI, binS, unx, eqk, DV.isU, DV.cells, hget, hget0, hset, hset0, stx_ref, splice, DV.one, fillp, mat, eqcs, eqs]; exact ⟨rfl, rfl⟩)] | rw [s_cnd (by simp [lk, keepEnv, Od.v]; exact rfl)] | rw [cnd_t] | rw [cnd_f] | rw [s_skip] | rw [s_ret] | rw [s_exit] | rw [C_ret] | rw [C_exit] | rw [C_skip] | rw [blk_ret] | rw [blk_norm] | rw [blk_exit] | rw [blk_exit' (by decide)] | rw [blkT_ret] | rw [blkT_norm] | rw [blkT_exit] | rw [blkT_exit' (by decide)] | rw [s_blk] | rw [s_reg (by simp [evOps, evOp_n, evOp_r, evOp_d, evOp_dr, kpo_refl, kpo_app, cnd_some, cnd_pair, cnd_cnd_t, cnd_cnd_f, cnd_same, cnd_dvb, cnd_and, cnd_or, ↓evx_pick, gd_bool, gd_boolf, gd_tup, cnd_t, cnd_f, evTo, isCall, evx, put, lk, Od.v, keepEnv, enterEnv, ldx_ref, rdc, binx, binI, binS, unx, eqk, DV.isU, DV.cells, hget, hget0, hset, hset0, stx_ref, splice, DV.one, fillp, mat, eqcs, eqs]; exact ⟨rfl, rfl⟩)] | rw [t_cnd (by simp [lk, keepEnv, Od.v]; exact rfl)] | rw [t_blk]))
    rw [lp_exit]
    simp [keepEnv, lk]
  | succ m ih =>
    intro i hm hi
    by_cases c1 : i < n
    · obtain ⟨I, hI⟩ : ∃ I, I = i + 1 := ⟨_, rfl⟩
      have w1 : IntKind.i64.wrap ((i : Int) + 1) = (I : Int) := (by rw [wrap64 _ (by omega) (by omega)]; omega)
      have e1 := run36 hW i
      have e2 := run36 hT i
      rw [hs i c1] at e1
      have hc : C X lp18_0 [(2, .ref p 0), (3, .ref q 0), (12, .int .i64 n), (13, .int .i64 i)] H = some (.norm, [(2, .ref p 0), (3, .ref q 0), (12, .int .i64 n), (13, .int .i64 I)], H) := by
        clear ih
        unfold lp18_0
        (repeat (first | rw [s_assoc] | rw [s_seq_reg (by simp [evOps, evOp_n, evOp_r, evOp_d, evOp_dr, kpo_refl, kpo_app, cnd_some, cnd_pair, cnd_cnd_t, cnd_cnd_f, cnd_same, cnd_dvb, cnd_and, cnd_or, ↓evx_pick, gd_bool, gd_boolf, gd_tup, cnd_t, cnd_f, evTo, isCall, evx, put, lk, Od.v, keepEnv, enterEnv, ldx_ref, rdc, binx, binI, binS, unx, eqk, DV.isU, DV.cells, hget, hget0, hset, hset0, stx_ref, splice, DV.one, fillp, mat, eqcs, eqs, c1, w1, hp, hq, e1, e2]; exact ⟨rfl, rfl⟩)] | rw [s_cnd (by simp [lk, keepEnv, Od.v, c1, w1, hp, hq, e1, e2]; exact rfl)] | rw [cnd_t] | rw [cnd_f] | rw [s_skip] | rw [s_ret] | rw [s_exit] | rw [C_ret] | rw [C_exit] | rw [C_skip] | rw [blk_ret] | rw [blk_norm] | rw [blk_exit] | rw [blk_exit' (by decide)] | rw [blkT_ret] | rw [blkT_norm] | rw [blkT_exit] | rw [blkT_exit' (by decide)] | rw [s_blk] | rw [s_reg (by simp [evOps, evOp_n, evOp_r, evOp_d, evOp_dr, kpo_refl, kpo_app, cnd_some, cnd_pair, cnd_cnd_t, cnd_cnd_f, cnd_same, cnd_dvb, cnd_and, cnd_or, ↓evx_pick, gd_bool, gd_boolf, gd_tup, cnd_t, cnd_f, evTo, isCall, evx, put, lk, Od.v, keepEnv, enterEnv, ldx_ref, rdc, binx, binI, binS, unx, eqk, DV.isU, DV.cells, hget, hget0, hset, hset0, stx_ref, splice, DV.one, fillp, mat, eqcs, eqs, c1, w1, hp, hq, e1, e2]; exact ⟨rfl, rfl⟩)] | rw [t_cnd (by simp [lk, keepEnv, Od.v, c1, w1, hp, hq, e1, e2]; exact rfl)] | rw [t_blk]))
        simp [keepEnv, lk]
      rw [t_loop, hc, lp_norm]
      exact ih I (by omega) (by omega)
    · exact ih i (by omega) hi
theorem run18 {W T : DV} {ws ts : List Nat} (hW : WL W ws) (hT : WL T ts) (hb : ws.length ≤ 1000000) (hb' : ts.length ≤ 1000000) (hs : ∀ k, at_ ws k = at_ ts k) (H : Heap) : E X 18 [.agg [W], .agg [T]] H = some (.bool true, H) := by
  have v1 := hW.vw
  have v2 := hT.vw
  obtain ⟨x, ex, c1⟩ := loop18 (H := H ++ [.box 34 [W], .box 34 [T]]) (p := H.length) (q := H.length + 1) (n := max ws.length ts.length) (by simp) (by simp [hget]) hW hT (by omega) (fun k _ => hs k) (max ws.length ts.length) 0 (by omega) (by omega)
  have e2 := mm_max ws.length ts.length
  generalize max ws.length ts.length = M at *
  rw [show ((0 : Nat) : Int) = 0 from rfl] at c1
  unfold lp18_0 at c1
  rw [E_go (X := X) _ b18 _ rfl rfl]; unfold b18
  (repeat (first | rw [s_assoc] | rw [s_seq_reg (by simp [evOps, evOp_n, evOp_r, evOp_d, evOp_dr, kpo_refl, kpo_app, cnd_some, cnd_pair, cnd_cnd_t, cnd_cnd_f, cnd_same, cnd_dvb, cnd_and, cnd_or, ↓evx_pick, gd_bool, gd_boolf, gd_tup, cnd_t, cnd_f, evTo, isCall, evx, put, lk, Od.v, keepEnv, enterEnv, ldx_ref, rdc, binx, binI, binS, unx, eqk, DV.isU, DV.cells, hget, hget0, hset, hset0, stx_ref, splice, DV.one, fillp, mat, eqcs, eqs, v1, v2, e2]; exact ⟨rfl, rfl⟩)] | rw [s_cnd (by simp [lk, keepEnv, Od.v, v1, v2, e2]; exact rfl)] | rw [cnd_t] | rw [cnd_f] | rw [s_skip] | rw [s_ret] | rw [s_exit] | rw [C_ret] | rw [C_exit] | rw [C_skip] | rw [blk_ret] | rw [blk_norm] | rw [blk_exit] | rw [blk_exit' (by decide)] | rw [blkT_ret] | rw [blkT_norm] | rw [blkT_exit] | rw [blkT_exit' (by decide)] | rw [s_blk] | rw [s_reg (by simp [evOps, evOp_n, evOp_r, evOp_d, evOp_dr, kpo_refl, kpo_app, cnd_some, cnd_pair, cnd_cnd_t, cnd_cnd_f, cnd_same, cnd_dvb, cnd_and, cnd_or, ↓evx_pick, gd_bool, gd_boolf, gd_tup, cnd_t, cnd_f, evTo, isCall, evx, put, lk, Od.v, keepEnv, enterEnv, ldx_ref, rdc, binx, binI, binS, unx, eqk, DV.isU, DV.cells, hget, hget0, hset, hset0, stx_ref, splice, DV.one, fillp, mat, eqcs, eqs, v1, v2, e2]; exact ⟨rfl, rfl⟩)] | rw [t_cnd (by simp [lk, keepEnv, Od.v, v1, v2, e2]; exact rfl)] | rw [t_blk]))
  (try simp only [keepEnv, List.map_cons, List.map_nil, lk, reduceIte, Nat.reduceEqDiff, Nat.zero_ne_one, Nat.one_ne_zero])
  rw [c1]
  (repeat (first | rw [s_assoc] | rw [s_seq_reg (by simp [evOps, evOp_n, evOp_r, evOp_d, evOp_dr, kpo_refl, kpo_app, cnd_some, cnd_pair, cnd_cnd_t, cnd_cnd_f, cnd_same, cnd_dvb, cnd_and, cnd_or, ↓evx_pick, gd_bool, gd_boolf, gd_tup, cnd_t, cnd_f, evTo, isCall, evx, put, lk, Od.v, keepEnv, enterEnv, ldx_ref, rdc, binx, binI, binS, unx, eqk, DV.isU, DV.cells, hget, hget0, hset, hset0, stx_ref, splice, DV.one, fillp, mat, eqcs, eqs]; exact ⟨rfl, rfl⟩)] | rw [s_cnd (by simp [lk, keepEnv, Od.v]; exact rfl)] | rw [cnd_t] | rw [cnd_f] | rw [s_skip] | rw [s_ret] | rw [s_exit] | rw [C_ret] | rw [C_exit] | rw [C_skip] | rw [blk_ret] | rw [blk_norm] | rw [blk_exit] | rw [blk_exit' (by decide)] | rw [blkT_ret] | rw [blkT_norm] | rw [blkT_exit] | rw [blkT_exit' (by decide)] | rw [s_blk] | rw [s_reg (by simp [evOps, evOp_n, evOp_r, evOp_d, evOp_dr, kpo_refl, kpo_app, cnd_some, cnd_pair, cnd_cnd_t, cnd_cnd_f, cnd_same, cnd_dvb, cnd_and, cnd_or, ↓evx_pick, gd_bool, gd_boolf, gd_tup, cnd_t, cnd_f, evTo, isCall, evx, put, lk, Od.v, keepEnv, enterEnv, ldx_ref, rdc, binx, binI, binS, unx, eqk, DV.isU, DV.cells, hget, hget0, hset, hset0, stx_ref, splice, DV.one, fillp, mat, eqcs, eqs]; exact ⟨rfl, rfl⟩)] | rw [t_cnd (by simp [lk, keepEnv, Od.v]; exact rfl)] | rw [t_blk]))
  simp [ends_ret, ends_norm, resL, evOps, evOp_n, evOp_r, evOp_d, evOp_dr, kpo_refl, kpo_app, cnd_some, cnd_pair, cnd_cnd_t, cnd_cnd_f, cnd_same, cnd_dvb, cnd_and, cnd_or, ↓evx_pick, gd_bool, gd_boolf, gd_tup, cnd_t, cnd_f, evTo, isCall, evx, put, lk, Od.v, keepEnv, enterEnv, ldx_ref, rdc, binx, binI, binS, unx, eqk, DV.isU, DV.cells, hget, hget0, hset, hset0, stx_ref, splice, DV.one, fillp, mat, eqcs, eqs, fin, fz0, fz1, fzT, fzL, nlt]
end Go.Proofs.YtfgnefnpfgdliaaDoor
