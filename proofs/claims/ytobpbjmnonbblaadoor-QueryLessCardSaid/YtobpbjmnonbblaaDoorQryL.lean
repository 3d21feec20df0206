/- QueryLess, in plain Lean: the ideal run of the law. -/
import Derived.Test.YtobpbjmnonbblaaDoorQryK
namespace Go.Proofs.YtobpbjmnonbblaaDoor
attribute [local go_sem] evOps evOp_n evOp_r evOp_d evOp_dr kpo_refl kpo_app cnd_some cnd_pair cnd_cnd_t cnd_cnd_f cnd_same cnd_dvb cnd_and cnd_or gd_bool gd_boolf gd_tup cnd_t cnd_f evTo isCall evx put lk Od.v keepEnv enterEnv ldx_ref rdc binx binI binS unx eqk DV.isU DV.cells hget hget0 hset hset0 stx_ref splice fillp mat eqcs eqs one_bool one_int one_str one_nilp one_ref one_elem one_nils one_list one_row one_nilm one_map one_nilf one_func one_nili one_ifc one_agg one_tup one_undef one_fresh
attribute [local go_sem ↓] evx_pick
set_option linter.unusedVariables false
set_option linter.unusedSimpArgs false
set_option maxRecDepth 10000
theorem check_of {s : Sch} {q : Qry} (c1 : smayV s = true) (c2 : longV q = false) (c3 : filtV s q.filter 0 = 0) (c4 : ∀ k ∈ q.cols ++ q.group, hasV s k = true) (c5 : aggsV s q.aggs = 0) (c6 : decide (0 < q.group.length + q.aggs.length) ≠ decide (0 < q.cols.length)) (c7 : q.sort.any (fun x => decide (x.1 < 0) || decide ((outsN q : Int) ≤ x.1)) = false) : checkV s q = 0 := by
  unfold checkV
  rw [if_neg (by rw [c1]; simp), if_neg (by rw [c2]; simp), if_neg (by simpa using c3), if_neg, if_neg (by simpa using c5), if_neg c6, if_neg (by rw [c7]; simp)]
  intro h2
  obtain ⟨k, hk, hh⟩ := List.any_eq_true.1 h2
  rw [c4 k hk] at hh
  cases hh
theorem less_sort {s : Sch} {q : Qry} (h : checkV s q = 0) : checkV s { q with sort := [] } = 0 := by
  obtain ⟨c1, c2, c3, c4, c5, c6, c7⟩ := check_zero h
  obtain ⟨l1, l2, l3, l4, l5, l6, l7⟩ := long_parts c2
  exact check_of c1 (long_of l1 l2 l3 l4 (by simp) l6 l7) c3 c4 c5 c6 rfl
theorem less_lim {s : Sch} {q : Qry} (h : checkV s q = 0) {l : Int} (h0 : 0 ≤ l) (h1 : l ≤ 4096) : checkV s { q with lim := l } = 0 := by
  obtain ⟨c1, c2, c3, c4, c5, c6, c7⟩ := check_zero h
  obtain ⟨l1, l2, l3, l4, l5, l6, l7⟩ := long_parts c2
  exact check_of c1 (long_of l1 l2 l3 l4 l5 h0 h1) c3 c4 c5 c6 c7
theorem less_filter {s : Sch} {q : Qry} (h : checkV s q = 0) : checkV s { q with filter := [] } = 0 := by
  obtain ⟨c1, c2, c3, c4, c5, c6, c7⟩ := check_zero h
  obtain ⟨l1, l2, l3, l4, l5, l6, l7⟩ := long_parts c2
  exact check_of c1 (long_of (by simp) l2 l3 l4 l5 l6 l7) rfl c4 c5 c6 c7
theorem outs_eq {s : Sch} {q : Qry} (h : checkV s q = 0) : outsV s q = (q.cols ++ q.group).map (kindV s) ++ q.aggs.map (aggK s) := by
  unfold outsV; rw [if_neg (by rw [h]; simp)]
theorem outs_some {s : Sch} {q : Qry} (h : checkV s q = 0) : (q.cols ++ q.group).map (kindV s) ++ q.aggs.map (aggK s) ≠ [] := by
  obtain ⟨c1, c2, c3, c4, c5, c6, c7⟩ := check_zero h
  intro h2
  have h3 := congrArg List.length h2
  simp only [List.length_append, List.length_map, List.length_nil] at h3
  apply c6
  rw [show q.group.length + q.aggs.length = 0 by omega, show q.cols.length = 0 by omega]
set_option maxHeartbeats 4000000 in
theorem run4 {Cd F Cn Gr Ag So : DV} {s : Sch} {q : Qry} (hA : Args Cd F Cn Gr Ag So s q) (limit : Int) : E X 4 [schD Cd s, .agg (qryC F Cn Gr Ag So q.lim), .int .i64 limit] [] = some (.bool true, []) := by
  have hC := hA.C
  have e7 := run7
  obtain ⟨b8, e8, hb8⟩ := run8 hC [.box 24 (schC Cd s), .box 30 (qryC F Cn Gr Ag So q.lim)]
  obtain ⟨b9, e9, hb9⟩ := run9 (H := [.box 24 (schC Cd s), .box 30 (qryC F Cn Gr Ag So q.lim)]) (fun G => hA.f _) hA.c hA.g hA.a hA.s
  have early : ∀ (hk : b8 = false ∨ (b8 = true ∧ b9 = false) ∨ (b8 = true ∧ b9 = true ∧ limit < 0) ∨ (b8 = true ∧ b9 = true ∧ ¬ limit < 0 ∧ 4096 < limit)), E X 4 [schD Cd s, .agg (qryC F Cn Gr Ag So q.lim), .int .i64 limit] [] = some (.bool true, []) := by
    intro hk
    clear hA hC hb8 hb9
    obtain ⟨cols, k1, k2, k3, k4⟩ := s
    obtain ⟨fl, co, gr, ag, so, lim⟩ := q
    simp only [schD, schC, qryC] at *
    rcases hk with rfl | ⟨rfl, rfl⟩ | ⟨rfl, rfl, hf⟩ | ⟨rfl, rfl, hf, hf2⟩
    · rw [E_go (X := X) _ b4 _ rfl rfl]; unfold b4; (repeat (first | rw [s_assoc] | rw [s_seq_reg (by simp [go_sem, e7, e8, e9]; exact ⟨rfl, rfl⟩)] | rw [s_cnd (by simp [lk, keepEnv, Od.v, e7, e8, e9]; exact rfl)] | rw [cnd_t] | rw [cnd_f] | rw [s_skip] | rw [s_ret] | rw [s_exit] | rw [C_ret] | rw [C_exit] | rw [C_skip] | rw [blk_ret] | rw [blk_norm] | rw [blk_exit] | rw [blk_exit' (by decide)] | rw [blkT_ret] | rw [blkT_norm] | rw [blkT_exit] | rw [blkT_exit' (by decide)] | rw [s_blk] | rw [s_reg (by simp [go_sem, e7, e8, e9]; exact ⟨rfl, rfl⟩)] | rw [t_cnd (by simp [lk, keepEnv, Od.v, e7, e8, e9]; exact rfl)] | rw [t_blk])); simp [ends_ret, ends_norm, resL, go_sem, fin, fz0, fz1, fzT, fzL, nlt, e7, e8, e9]
    · rw [E_go (X := X) _ b4 _ rfl rfl]; unfold b4; (repeat (first | rw [s_assoc] | rw [s_seq_reg (by simp [go_sem, e7, e8, e9]; exact ⟨rfl, rfl⟩)] | rw [s_cnd (by simp [lk, keepEnv, Od.v, e7, e8, e9]; exact rfl)] | rw [cnd_t] | rw [cnd_f] | rw [s_skip] | rw [s_ret] | rw [s_exit] | rw [C_ret] | rw [C_exit] | rw [C_skip] | rw [blk_ret] | rw [blk_norm] | rw [blk_exit] | rw [blk_exit' (by decide)] | rw [blkT_ret] | rw [blkT_norm] | rw [blkT_exit] | rw [blkT_exit' (by decide)] | rw [s_blk] | rw [s_reg (by simp [go_sem, e7, e8, e9]; exact ⟨rfl, rfl⟩)] | rw [t_cnd (by simp [lk, keepEnv, Od.v, e7, e8, e9]; exact rfl)] | rw [t_blk])); simp [ends_ret, ends_norm, resL, go_sem, fin, fz0, fz1, fzT, fzL, nlt, e7, e8, e9]
    · rw [E_go (X := X) _ b4 _ rfl rfl]; unfold b4; (repeat (first | rw [s_assoc] | rw [s_seq_reg (by simp [go_sem, e7, e8, e9, hf]; exact ⟨rfl, rfl⟩)] | rw [s_cnd (by simp [lk, keepEnv, Od.v, e7, e8, e9, hf]; exact rfl)] | rw [cnd_t] | rw [cnd_f] | rw [s_skip] | rw [s_ret] | rw [s_exit] | rw [C_ret] | rw [C_exit] | rw [C_skip] | rw [blk_ret] | rw [blk_norm] | rw [blk_exit] | rw [blk_exit' (by decide)] | rw [blkT_ret] | rw [blkT_norm] | rw [blkT_exit] | rw [blkT_exit' (by decide)] | rw [s_blk] | rw [s_reg (by simp [go_sem, e7, e8, e9, hf]; exact ⟨rfl, rfl⟩)] | rw [t_cnd (by simp [lk, keepEnv, Od.v, e7, e8, e9, hf]; exact rfl)] | rw [t_blk])); simp [ends_ret, ends_norm, resL, go_sem, fin, fz0, fz1, fzT, fzL, nlt, e7, e8, e9, hf]
    · rw [E_go (X := X) _ b4 _ rfl rfl]; unfold b4; (repeat (first | rw [s_assoc] | rw [s_seq_reg (by simp [go_sem, e7, e8, e9, hf, hf2]; exact ⟨rfl, rfl⟩)] | rw [s_cnd (by simp [lk, keepEnv, Od.v, e7, e8, e9, hf, hf2]; exact rfl)] | rw [cnd_t] | rw [cnd_f] | rw [s_skip] | rw [s_ret] | rw [s_exit] | rw [C_ret] | rw [C_exit] | rw [C_skip] | rw [blk_ret] | rw [blk_norm] | rw [blk_exit] | rw [blk_exit' (by decide)] | rw [blkT_ret] | rw [blkT_norm] | rw [blkT_exit] | rw [blkT_exit' (by decide)] | rw [s_blk] | rw [s_reg (by simp [go_sem, e7, e8, e9, hf, hf2]; exact ⟨rfl, rfl⟩)] | rw [t_cnd (by simp [lk, keepEnv, Od.v, e7, e8, e9, hf, hf2]; exact rfl)] | rw [t_blk])); simp [ends_ret, ends_norm, resL, go_sem, fin, fz0, fz1, fzT, fzL, nlt, e7, e8, e9, hf, hf2]
  cases b8
  · exact early (.inl rfl)
  cases b9
  · exact early (.inr (.inl ⟨rfl, rfl⟩))
  by_cases f1 : limit < 0
  · exact early (.inr (.inr (.inl ⟨rfl, rfl, f1⟩)))
  by_cases f2 : 4096 < limit
  · exact early (.inr (.inr (.inr ⟨rfl, rfl, f1, f2⟩)))
  clear early
  have hq0 := hb9 rfl
  have hl := hb8 rfl
  clear hb8 hb9
  have hq : ∀ g, QV g F Cn Gr Ag So q := fun g => { hq0 with f := fun G => hA.f _ }
  have e10 := fun g => run10 hC (by omega) (hq g)
  by_cases p0 : checkV s q = 0
  case neg =>
    have p0' : (checkV s q != 0) = true := by simpa using p0
    generalize checkV s q = r at *
    clear hA hC hq hl hq0
    obtain ⟨cols, k1, k2, k3, k4⟩ := s
    obtain ⟨fl, co, gr, ag, so, lim⟩ := q
    simp only [schD, schC, qryC] at *
    rw [E_go (X := X) _ b4 _ rfl rfl]; unfold b4; (repeat (first | rw [s_assoc] | rw [s_seq_reg (by simp [go_sem, e7, e8, e9, e10, f1, f2, p0, p0']; exact ⟨rfl, rfl⟩)] | rw [s_cnd (by simp [lk, keepEnv, Od.v, e7, e8, e9, e10, f1, f2, p0, p0']; exact rfl)] | rw [cnd_t] | rw [cnd_f] | rw [s_skip] | rw [s_ret] | rw [s_exit] | rw [C_ret] | rw [C_exit] | rw [C_skip] | rw [blk_ret] | rw [blk_norm] | rw [blk_exit] | rw [blk_exit' (by decide)] | rw [blkT_ret] | rw [blkT_norm] | rw [blkT_exit] | rw [blkT_exit' (by decide)] | rw [s_blk] | rw [s_reg (by simp [go_sem, e7, e8, e9, e10, f1, f2, p0, p0']; exact ⟨rfl, rfl⟩)] | rw [t_cnd (by simp [lk, keepEnv, Od.v, e7, e8, e9, e10, f1, f2, p0, p0']; exact rfl)] | rw [t_blk])); simp [ends_ret, ends_norm, resL, go_sem, fin, fz0, fz1, fzT, fzL, nlt, e7, e8, e9, e10, f1, f2, p0, p0']
  rw [p0] at e10
  have hne := outs_some p0
  have qa : ∀ g, QV g F Cn Gr Ag .nils { q with sort := [] } := fun g => { hq g with s := fun _ => rfl, ns := by simp }
  have qb : ∀ g, QV g F Cn Gr Ag So { q with lim := limit } := fun g => { hq g with }
  have qc : ∀ g, QV g .nils Cn Gr Ag So { q with filter := [] } := fun g => { hq g with f := fun _ => rfl, nf := by simp }
  have pa := less_sort p0
  have pb := less_lim p0 (l := limit) (by omega) (by omega)
  have pc := less_filter p0
  have e10a := fun g => run10 hC (by omega) (qa g)
  have e10b := fun g => run10 hC (by omega) (qb g)
  have e10c := fun g => run10 hC (by omega) (qc g)
  have e11 := fun g => run11 hC (by omega) (hq g)
  have e11a := fun g => run11 hC (by omega) (qa g)
  have e11b := fun g => run11 hC (by omega) (qb g)
  have e11c := fun g => run11 hC (by omega) (qc g)
  rw [pa] at e10a
  rw [pb] at e10b
  rw [pc] at e10c
  rw [outs_eq p0] at e11
  rw [outs_eq pa] at e11a
  rw [outs_eq pb] at e11b
  rw [outs_eq pc] at e11c
  have hnb : ((q.cols ++ q.group).map (kindV s) ++ q.aggs.map (aggK s)).length ≤ 10000 := by
    have := hq0.nc; have := hq0.ng; have := hq0.na
    simp only [List.length_append, List.length_map]; omega
  generalize (q.cols ++ q.group).map (kindV s) ++ q.aggs.map (aggK s) = l at *
  have hcon : conD l = .fresh 3 1 (l.map intD) := by unfold conD; rw [if_neg hne]
  rw [hcon] at e11 e11a e11b e11c
  have e12 : ∀ (h : Heap) (i : Nat), h[i]? = some (.row 3 1 0 (l.map intD)) → h[2]? = some (.row 3 1 0 (l.map intD)) → E X 12 [.row i 0 0 (l.map intD).length false, .row 2 0 0 (l.map intD).length false] h = some (.bool true, h) := by
    intro h i h1 h2
    have v1 : ∀ j, h[j]? = some (HO.row 3 1 0 (l.map intD)) → vw h 1 (.row j 0 0 (l.map intD).length false) = some (l.map (.int .i64)) := by
      intro j hj
      simp [vw, hj, List.take_of_length_le]
    have := run12 (v1 i h1) (v1 2 h2) (by omega)
    rw [this]
    simp
  obtain ⟨O, hO⟩ : ∃ O, O = l.map intD := ⟨_, rfl⟩
  rw [← hO] at e11 e11a e11b e11c e12
  obtain ⟨hC0, hC1⟩ : ∃ x, x = HO.box 24 (schC Cd s) := ⟨_, rfl⟩
  have o1 := hA.o1
  have o2 := hA.o2
  have o3 := hA.o3
  have o4 := hA.o4
  have o5 := hA.c.one
  have o6 := hA.g.one
  have k1' := e12 [.box 24 (schC Cd s), .box 30 (qryC F Cn Gr Ag So q.lim), .row 3 1 0 O, .box 30 (qryC F Cn Gr Ag .nils q.lim), .box 30 (qryC F Cn Gr Ag So limit), .box 30 (qryC .nils Cn Gr Ag So q.lim), .row 3 1 0 O] 6 rfl rfl
  have k2' := e12 [.box 24 (schC Cd s), .box 30 (qryC F Cn Gr Ag So q.lim), .row 3 1 0 O, .box 30 (qryC F Cn Gr Ag .nils q.lim), .box 30 (qryC F Cn Gr Ag So limit), .box 30 (qryC .nils Cn Gr Ag So q.lim), .row 3 1 0 O, .row 3 1 0 O] 7 rfl rfl
  have k3' := e12 [.box 24 (schC Cd s), .box 30 (qryC F Cn Gr Ag So q.lim), .row 3 1 0 O, .box 30 (qryC F Cn Gr Ag .nils q.lim), .box 30 (qryC F Cn Gr Ag So limit), .box 30 (qryC .nils Cn Gr Ag So q.lim), .row 3 1 0 O, .row 3 1 0 O, .row 3 1 0 O] 8 rfl rfl
  clear e12 hO hC1 hcon hnb hne hA hC hq hl hq0 qa qb qc pa pb pc p0
  obtain ⟨cols, k1, k2, k3, k4⟩ := s
  obtain ⟨fl, co, gr, ag, so, lim⟩ := q
  simp only [schD, schC, qryC] at *
  rw [E_go (X := X) _ b4 _ rfl rfl]; unfold b4; (repeat (first | rw [s_assoc] | rw [s_seq_reg (by simp [go_sem, e7, e8, e9, e10, e10a, e10b, e10c, e11, e11a, e11b, e11c, k1', k2', k3', f1, f2, o1, o2, o3, o4, o5, o6]; exact ⟨rfl, rfl⟩)] | rw [s_cnd (by simp [lk, keepEnv, Od.v, e7, e8, e9, e10, e10a, e10b, e10c, e11, e11a, e11b, e11c, k1', k2', k3', f1, f2, o1, o2, o3, o4, o5, o6]; exact rfl)] | rw [cnd_t] | rw [cnd_f] | rw [s_skip] | rw [s_ret] | rw [s_exit] | rw [C_ret] | rw [C_exit] | rw [C_skip] | rw [blk_ret] | rw [blk_norm] | rw [blk_exit] | rw [blk_exit' (by decide)] | rw [blkT_ret] | rw [blkT_norm] | rw [blkT_exit] | rw [blkT_exit' (by decide)] | rw [s_blk] | rw [s_reg (by simp [go_sem, e7, e8, e9, e10, e10a, e10b, e10c, e11, e11a, e11b, e11c, k1', k2', k3', f1, f2, o1, o2, o3, o4, o5, o6]; exact ⟨rfl, rfl⟩)] | rw [t_cnd (by simp [lk, keepEnv, Od.v, e7, e8, e9, e10, e10a, e10b, e10c, e11, e11a, e11b, e11c, k1', k2', k3', f1, f2, o1, o2, o3, o4, o5, o6]; exact rfl)] | rw [t_blk])); simp [ends_ret, ends_norm, resL, go_sem, fin, fz0, fz1, fzT, fzL, nlt, e7, e8, e9, e10, e10a, e10b, e10c, e11, e11a, e11b, e11c, k1', k2', k3', f1, f2, o1, o2, o3, o4, o5, o6]
end Go.Proofs.YtobpbjmnonbblaaDoor
