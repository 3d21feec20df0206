/- QueryMore, in plain Lean: the ideal run of the law. -/
import Derived.Test.YtobpbjmnonbblaaDoorQryJ
namespace Go.Proofs.YtobpbjmnonbblaaDoor
attribute [local go_sem] evOps evOp_n evOp_r evOp_d evOp_dr kpo_refl kpo_app cnd_some cnd_pair cnd_cnd_t cnd_cnd_f cnd_same cnd_dvb cnd_and cnd_or gd_bool gd_boolf gd_tup cnd_t cnd_f evTo isCall evx put lk Od.v keepEnv enterEnv ldx_ref rdc binx binI binS unx eqk DV.isU DV.cells hget hget0 hset hset0 stx_ref splice fillp mat eqcs eqs one_bool one_int one_str one_nilp one_ref one_elem one_nils one_list one_row one_nilm one_map one_nilf one_func one_nili one_ifc one_agg one_tup one_undef one_fresh
attribute [local go_sem ↓] evx_pick
set_option linter.unusedVariables false
set_option linter.unusedSimpArgs false
set_option maxRecDepth 10000
theorem filtV_snoc (s : Sch) (x : N) : ∀ (l : List N) (i : Nat), filtV s l i = 0 → filtV s (l ++ [x]) i = nodeV s (i + l.length) x
  | [], i, _ => by
    simp only [List.nil_append, filtV, List.length_nil, Nat.add_zero]
    split
    · rename_i h; exact h.symm
    · rfl
  | y :: l, i, h => by
    rw [filtV] at h
    rw [List.cons_append, filtV]
    split at h
    · rename_i h0
      rw [if_pos h0, filtV_snoc s x l (i + 1) h, List.length_cons]
      congr 1; omega
    · rename_i h0; exact absurd h h0
theorem long_parts {q : Qry} (h : longV q = false) : q.filter.length ≤ 32 ∧ q.cols.length ≤ 8 ∧ q.group.length ≤ 4 ∧ q.aggs.length ≤ 4 ∧ q.sort.length ≤ 4 ∧ 0 ≤ q.lim ∧ q.lim ≤ 4096 := by
  simp [longV] at h
  omega
theorem long_of {q : Qry} (h1 : q.filter.length ≤ 32) (h2 : q.cols.length ≤ 8) (h3 : q.group.length ≤ 4) (h4 : q.aggs.length ≤ 4) (h5 : q.sort.length ≤ 4) (h6 : 0 ≤ q.lim) (h7 : q.lim ≤ 4096) : longV q = false := by
  simp [longV]
  omega
theorem more_lim {s : Sch} {q : Qry} (h : checkV s q = 0) {l : Int} (hl : 4096 < l) : checkV s { q with lim := l } = 2 := by
  obtain ⟨c1, _⟩ := check_zero h
  unfold checkV
  rw [if_neg (by rw [c1]; simp), if_pos]
  simp [longV, hl]
theorem more_sort {s : Sch} {q : Qry} (h : checkV s q = 0) {n : Int} (hn : (outsN q : Int) ≤ n) : checkV s { q with sort := [(n, false)] } = 3 := by
  obtain ⟨c1, c2, c3, c4, c5, c6, c7⟩ := check_zero h
  obtain ⟨l1, l2, l3, l4, l5, l6, l7⟩ := long_parts c2
  unfold checkV
  rw [if_neg (by rw [c1]; simp), if_neg (by rw [long_of (q := { q with sort := [(n, false)] }) l1 l2 l3 l4 (by simp) l6 l7]; simp), if_neg (by simpa using c3), if_neg, if_neg (by simpa using c5), if_neg c6, if_pos]
  · have : (outsN { q with sort := [(n, false)] } : Int) ≤ n := hn
    simp [this]
  · intro h2
    obtain ⟨k, hk, hh⟩ := List.any_eq_true.1 h2
    rw [c4 k hk] at hh
    cases hh
theorem more_filter {s : Sch} {q : Qry} (h : checkV s q = 0) (hl : q.filter.length < 32) {x : N} {e : Int} (he : e ≠ 0) (hx : nodeV s q.filter.length x = e) : checkV s { q with filter := q.filter ++ [x] } = e := by
  obtain ⟨c1, c2, c3, c4, c5, c6, c7⟩ := check_zero h
  obtain ⟨l1, l2, l3, l4, l5, l6, l7⟩ := long_parts c2
  have hf : filtV s (q.filter ++ [x]) 0 = e := by rw [filtV_snoc s x q.filter 0 c3, Nat.zero_add, hx]
  unfold checkV
  rw [if_neg (by rw [c1]; simp), if_neg (by rw [long_of (q := { q with filter := q.filter ++ [x] }) (by simp; omega) l2 l3 l4 l5 l6 l7]; simp), if_pos (by simp only [hf]; exact he)]
  exact hf
def nodN (ask col a : Int) : N := ⟨ask, col, ⟨0, 0, ⟨#[]⟩, false⟩, a, 0⟩
theorem node_not {s : Sch} {n : Nat} {a : Int} (h : (n : Int) ≤ a) : nodeV s n (nodN 10 0 a) = 5 := by
  have h1 : needsV 10 = 4 := by decide
  have h2 : ahV n a = false := by simp [ahV]; omega
  simp [nodeV, nodN, h1, h2]
theorem node_is {s : Sch} {n : Nat} {a : Int} (h : (s.cols.length : Int) ≤ a) : nodeV s n (nodN 7 a 0) = 3 := by
  have h1 : needsV 7 = 2 := by decide
  have h2 : getI s.cols a = none := getI_none (by omega)
  simp [nodeV, nodN, h1, h2]
/-- What the arguments are. -/
structure Args (Cd F Cn Gr Ag So : DV) (s : Sch) (q : Qry) : Prop where
  C : ∀ g, vw g 3 Cd = some (s.cols.map Cl.d)
  f : ∀ g, vw g 8 F = some (q.filter.map N.d)
  sf : ∀ g, srcOf g 8 F = some (q.filter.map N.d)
  c : SlI Cn q.cols
  g : SlI Gr q.group
  a : ∀ h, vw h 2 Ag = some (q.aggs.map agD)
  s : ∀ h, vw h 2 So = some (q.sort.map byD)
  o1 : Cd.one = true
  o2 : F.one = true
  o3 : Ag.one = true
  o4 : So.one = true
set_option maxHeartbeats 4000000 in
theorem run3 {Cd F Cn Gr Ag So : DV} {s : Sch} {q : Qry} (hA : Args Cd F Cn Gr Ag So s q) (what far : Int) : E X 3 [schD Cd s, .agg (qryC F Cn Gr Ag So q.lim), .int .i64 what, .int .i64 far] [] = some (.bool true, []) := by
  have hC := hA.C
  have e7 := run7
  obtain ⟨b8, e8, hb8⟩ := run8 hC [.box 24 (schC Cd s), .box 30 (qryC F Cn Gr Ag So q.lim)]
  obtain ⟨b9, e9, hb9⟩ := run9 (H := [.box 24 (schC Cd s), .box 30 (qryC F Cn Gr Ag So q.lim)]) (fun G => hA.f _) hA.c hA.g hA.a hA.s
  have early : ∀ (hk : b8 = false ∨ (b8 = true ∧ b9 = false) ∨ (b8 = true ∧ b9 = true ∧ far < 0) ∨ (b8 = true ∧ b9 = true ∧ ¬ far < 0 ∧ 1000 < far)), E X 3 [schD Cd s, .agg (qryC F Cn Gr Ag So q.lim), .int .i64 what, .int .i64 far] [] = some (.bool true, []) := by
    intro hk
    clear hA hC hb8 hb9
    obtain ⟨cols, k1, k2, k3, k4⟩ := s
    obtain ⟨fl, co, gr, ag, so, lim⟩ := q
    simp only [schD, schC, qryC] at *
    rcases hk with rfl | ⟨rfl, rfl⟩ | ⟨rfl, rfl, hf⟩ | ⟨rfl, rfl, hf, hf2⟩
    · rw [E_go (X := X) _ b3 _ rfl rfl]; unfold b3; (repeat (first | rw [s_assoc] | rw [s_seq_reg (by simp [go_sem, e7, e8, e9]; exact ⟨rfl, rfl⟩)] | rw [s_cnd (by simp [lk, keepEnv, Od.v, e7, e8, e9]; exact rfl)] | rw [cnd_t] | rw [cnd_f] | rw [s_skip] | rw [s_ret] | rw [s_exit] | rw [C_ret] | rw [C_exit] | rw [C_skip] | rw [blk_ret] | rw [blk_norm] | rw [blk_exit] | rw [blk_exit' (by decide)] | rw [blkT_ret] | rw [blkT_norm] | rw [blkT_exit] | rw [blkT_exit' (by decide)] | rw [s_blk] | rw [s_reg (by simp [go_sem, e7, e8, e9]; exact ⟨rfl, rfl⟩)] | rw [t_cnd (by simp [lk, keepEnv, Od.v, e7, e8, e9]; exact rfl)] | rw [t_blk])); simp [ends_ret, ends_norm, resL, go_sem, fin, fz0, fz1, fzT, fzL, nlt, e7, e8, e9]
    · rw [E_go (X := X) _ b3 _ rfl rfl]; unfold b3; (repeat (first | rw [s_assoc] | rw [s_seq_reg (by simp [go_sem, e7, e8, e9]; exact ⟨rfl, rfl⟩)] | rw [s_cnd (by simp [lk, keepEnv, Od.v, e7, e8, e9]; exact rfl)] | rw [cnd_t] | rw [cnd_f] | rw [s_skip] | rw [s_ret] | rw [s_exit] | rw [C_ret] | rw [C_exit] | rw [C_skip] | rw [blk_ret] | rw [blk_norm] | rw [blk_exit] | rw [blk_exit' (by decide)] | rw [blkT_ret] | rw [blkT_norm] | rw [blkT_exit] | rw [blkT_exit' (by decide)] | rw [s_blk] | rw [s_reg (by simp [go_sem, e7, e8, e9]; exact ⟨rfl, rfl⟩)] | rw [t_cnd (by simp [lk, keepEnv, Od.v, e7, e8, e9]; exact rfl)] | rw [t_blk])); simp [ends_ret, ends_norm, resL, go_sem, fin, fz0, fz1, fzT, fzL, nlt, e7, e8, e9]
    · rw [E_go (X := X) _ b3 _ rfl rfl]; unfold b3; (repeat (first | rw [s_assoc] | rw [s_seq_reg (by simp [go_sem, e7, e8, e9, hf]; exact ⟨rfl, rfl⟩)] | rw [s_cnd (by simp [lk, keepEnv, Od.v, e7, e8, e9, hf]; exact rfl)] | rw [cnd_t] | rw [cnd_f] | rw [s_skip] | rw [s_ret] | rw [s_exit] | rw [C_ret] | rw [C_exit] | rw [C_skip] | rw [blk_ret] | rw [blk_norm] | rw [blk_exit] | rw [blk_exit' (by decide)] | rw [blkT_ret] | rw [blkT_norm] | rw [blkT_exit] | rw [blkT_exit' (by decide)] | rw [s_blk] | rw [s_reg (by simp [go_sem, e7, e8, e9, hf]; exact ⟨rfl, rfl⟩)] | rw [t_cnd (by simp [lk, keepEnv, Od.v, e7, e8, e9, hf]; exact rfl)] | rw [t_blk])); simp [ends_ret, ends_norm, resL, go_sem, fin, fz0, fz1, fzT, fzL, nlt, e7, e8, e9, hf]
    · rw [E_go (X := X) _ b3 _ rfl rfl]; unfold b3; (repeat (first | rw [s_assoc] | rw [s_seq_reg (by simp [go_sem, e7, e8, e9, hf, hf2]; exact ⟨rfl, rfl⟩)] | rw [s_cnd (by simp [lk, keepEnv, Od.v, e7, e8, e9, hf, hf2]; exact rfl)] | rw [cnd_t] | rw [cnd_f] | rw [s_skip] | rw [s_ret] | rw [s_exit] | rw [C_ret] | rw [C_exit] | rw [C_skip] | rw [blk_ret] | rw [blk_norm] | rw [blk_exit] | rw [blk_exit' (by decide)] | rw [blkT_ret] | rw [blkT_norm] | rw [blkT_exit] | rw [blkT_exit' (by decide)] | rw [s_blk] | rw [s_reg (by simp [go_sem, e7, e8, e9, hf, hf2]; exact ⟨rfl, rfl⟩)] | rw [t_cnd (by simp [lk, keepEnv, Od.v, e7, e8, e9, hf, hf2]; exact rfl)] | rw [t_blk])); simp [ends_ret, ends_norm, resL, go_sem, fin, fz0, fz1, fzT, fzL, nlt, e7, e8, e9, hf, hf2]
  cases b8
  · exact early (.inl rfl)
  cases b9
  · exact early (.inr (.inl ⟨rfl, rfl⟩))
  by_cases f1 : far < 0
  · exact early (.inr (.inr (.inl ⟨rfl, rfl, f1⟩)))
  by_cases f2 : 1000 < far
  · exact early (.inr (.inr (.inr ⟨rfl, rfl, f1, f2⟩)))
  clear early
  have hq := hb9 rfl
  have hl := hb8 rfl
  clear hb8 hb9
  have e10 := run10 hC (by omega) hq
  by_cases p0 : checkV s q = 0
  case neg =>
    have p0' : (checkV s q != 0) = true := by simpa using p0
    generalize checkV s q = r at *
    clear hA hC hq hl
    obtain ⟨cols, k1, k2, k3, k4⟩ := s
    obtain ⟨fl, co, gr, ag, so, lim⟩ := q
    simp only [schD, schC, qryC] at *
    rw [E_go (X := X) _ b3 _ rfl rfl]; unfold b3; (repeat (first | rw [s_assoc] | rw [s_seq_reg (by simp [go_sem, e7, e8, e9, e10, f1, f2, p0, p0']; exact ⟨rfl, rfl⟩)] | rw [s_cnd (by simp [lk, keepEnv, Od.v, e7, e8, e9, e10, f1, f2, p0, p0']; exact rfl)] | rw [cnd_t] | rw [cnd_f] | rw [s_skip] | rw [s_ret] | rw [s_exit] | rw [C_ret] | rw [C_exit] | rw [C_skip] | rw [blk_ret] | rw [blk_norm] | rw [blk_exit] | rw [blk_exit' (by decide)] | rw [blkT_ret] | rw [blkT_norm] | rw [blkT_exit] | rw [blkT_exit' (by decide)] | rw [s_blk] | rw [s_reg (by simp [go_sem, e7, e8, e9, e10, f1, f2, p0, p0']; exact ⟨rfl, rfl⟩)] | rw [t_cnd (by simp [lk, keepEnv, Od.v, e7, e8, e9, e10, f1, f2, p0, p0']; exact rfl)] | rw [t_blk])); simp [ends_ret, ends_norm, resL, go_sem, fin, fz0, fz1, fzT, fzL, nlt, e7, e8, e9, e10, f1, f2, p0, p0']
  rw [p0] at e10
  by_cases w0 : what = 0
  · subst w0
    have e10b := run10 (H := [.box 24 (schC Cd s), .box 30 (qryC F Cn Gr Ag So (4097 + far))]) (q := { q with lim := 4097 + far }) hC (by omega) { hq with f := fun G => hA.f _ }
    rw [more_lim p0 (by omega)] at e10b
    obtain ⟨l, hll⟩ : ∃ l, l = 4097 + far := ⟨_, rfl⟩
    have z0 : IntKind.i64.wrap (4097 + far) = l := by rw [wrap64 _ (by omega) (by omega)]; omega
    simp only [← hll] at e10b
    clear hA hC hq hl p0 hll
    obtain ⟨cols, k1, k2, k3, k4⟩ := s
    obtain ⟨fl, co, gr, ag, so, lim⟩ := q
    simp only [schD, schC, qryC] at *
    rw [E_go (X := X) _ b3 _ rfl rfl]; unfold b3; (repeat (first | rw [s_assoc] | rw [s_seq_reg (by simp [go_sem, e7, e8, e9, e10, e10b, f1, f2, z0]; exact ⟨rfl, rfl⟩)] | rw [s_cnd (by simp [lk, keepEnv, Od.v, e7, e8, e9, e10, e10b, f1, f2, z0]; exact rfl)] | rw [cnd_t] | rw [cnd_f] | rw [s_skip] | rw [s_ret] | rw [s_exit] | rw [C_ret] | rw [C_exit] | rw [C_skip] | rw [blk_ret] | rw [blk_norm] | rw [blk_exit] | rw [blk_exit' (by decide)] | rw [blkT_ret] | rw [blkT_norm] | rw [blkT_exit] | rw [blkT_exit' (by decide)] | rw [s_blk] | rw [s_reg (by simp [go_sem, e7, e8, e9, e10, e10b, f1, f2, z0]; exact ⟨rfl, rfl⟩)] | rw [t_cnd (by simp [lk, keepEnv, Od.v, e7, e8, e9, e10, e10b, f1, f2, z0]; exact rfl)] | rw [t_blk])); simp [ends_ret, ends_norm, resL, go_sem, fin, fz0, fz1, fzT, fzL, nlt, e7, e8, e9, e10, e10b, f1, f2, z0]
  have w0' : (what == 0) = false := by simpa using w0
  have v2 := hA.c.vw
  have v3 := hA.g.vw
  have v4 := hA.a
  by_cases w1 : what = 1
  · subst w1
    obtain ⟨n1, hn1⟩ : ∃ n, n = q.cols.length + q.group.length := ⟨_, rfl⟩
    obtain ⟨n2, hn2⟩ : ∃ n, n = outsN q := ⟨_, rfl⟩
    obtain ⟨n3, hn3⟩ : ∃ n : Int, n = n2 + far := ⟨_, rfl⟩
    have b2 := hq.nc
    have b3 := hq.ng
    have b4 := hq.na
    have z1 : IntKind.i64.wrap ((q.cols.length : Int) + (q.group.length : Int)) = (n1 : Int) := (by rw [wrap64 _ (by omega) (by omega)]; omega)
    have z2 : IntKind.i64.wrap ((n1 : Int) + (q.aggs.length : Int)) = (n2 : Int) := by unfold outsN at hn2; rw [wrap64 _ (by omega) (by omega)]; omega
    have z3 : IntKind.i64.wrap ((n2 : Int) + far) = n3 := by unfold outsN at hn2; rw [wrap64 _ (by omega) (by omega)]; omega
    have y4 : ∀ a b h, eltL [.agg [.int .i64 a, .bool b]] h = some ([.agg [.int .i64 a, .bool b]], h) := fun _ _ _ => rfl
    have y5 : ∀ a b, Wc 2 (.agg [.int .i64 a, .bool b]) := fun a b => by simp [Wc, DV.cells, DV.one]
    have y6 : ∀ a b, Nr (.agg [.int .i64 a, .bool b]) := fun a b => .agg (by intro x hx; simp at hx; rcases hx with rfl | rfl; exact .int _ _; exact .bool _)
    have y7 : ∀ l c, DV.one (.list 2 l c) = true := fun _ _ => rfl
    have e10b := run10 (H := [.box 24 (schC Cd s), .box 30 (qryC F Cn Gr Ag (.list 2 [.agg [.int .i64 n3, .bool false]] true) q.lim)]) (So := .list 2 [.agg [.int .i64 n3, .bool false]] true) (q := { q with sort := [(n3, false)] }) hC (by omega) { hq with f := fun G => hA.f _, s := fun _ => rfl, ns := by simp }
    rw [more_sort p0 (by omega)] at e10b
    clear hA hC hq hl p0 hn1 hn2 hn3 b2 b3 b4
    obtain ⟨cols, k1, k2, k3, k4⟩ := s
    obtain ⟨fl, co, gr, ag, so, lim⟩ := q
    simp only [schD, schC, qryC] at *
    rw [E_go (X := X) _ b3 _ rfl rfl]; unfold b3; (repeat (first | rw [s_assoc] | rw [s_seq_reg (by simp [go_sem, e7, e8, e9, e10, e10b, f1, f2, w0', v2, v3, v4, z1, z2, z3, y4, y5, y6, y7]; exact ⟨rfl, rfl⟩)] | rw [s_cnd (by simp [lk, keepEnv, Od.v, e7, e8, e9, e10, e10b, f1, f2, w0', v2, v3, v4, z1, z2, z3, y4, y5, y6, y7]; exact rfl)] | rw [cnd_t] | rw [cnd_f] | rw [s_skip] | rw [s_ret] | rw [s_exit] | rw [C_ret] | rw [C_exit] | rw [C_skip] | rw [blk_ret] | rw [blk_norm] | rw [blk_exit] | rw [blk_exit' (by decide)] | rw [blkT_ret] | rw [blkT_norm] | rw [blkT_exit] | rw [blkT_exit' (by decide)] | rw [s_blk] | rw [s_reg (by simp [go_sem, e7, e8, e9, e10, e10b, f1, f2, w0', v2, v3, v4, z1, z2, z3, y4, y5, y6, y7]; exact ⟨rfl, rfl⟩)] | rw [t_cnd (by simp [lk, keepEnv, Od.v, e7, e8, e9, e10, e10b, f1, f2, w0', v2, v3, v4, z1, z2, z3, y4, y5, y6, y7]; exact rfl)] | rw [t_blk])); simp [ends_ret, ends_norm, resL, go_sem, fin, fz0, fz1, fzT, fzL, nlt, e7, e8, e9, e10, e10b, f1, f2, w0', v2, v3, v4, z1, z2, z3, y4, y5, y6, y7]
  have w1' : (what == 1) = false := by simpa using w1
  have vF := hA.f
  by_cases w23 : what = 2 ∨ what = 3
  case neg =>
    have w2' : (what == 2) = false := by simp; omega
    have w3' : (what == 3) = false := by simp; omega
    clear hA hC hq hl p0
    obtain ⟨cols, k1, k2, k3, k4⟩ := s
    obtain ⟨fl, co, gr, ag, so, lim⟩ := q
    simp only [schD, schC, qryC] at *
    rw [E_go (X := X) _ b3 _ rfl rfl]; unfold b3; (repeat (first | rw [s_assoc] | rw [s_seq_reg (by simp [go_sem, e7, e8, e9, e10, f1, f2, w0', w1', w2', w3']; exact ⟨rfl, rfl⟩)] | rw [s_cnd (by simp [lk, keepEnv, Od.v, e7, e8, e9, e10, f1, f2, w0', w1', w2', w3']; exact rfl)] | rw [cnd_t] | rw [cnd_f] | rw [s_skip] | rw [s_ret] | rw [s_exit] | rw [C_ret] | rw [C_exit] | rw [C_skip] | rw [blk_ret] | rw [blk_norm] | rw [blk_exit] | rw [blk_exit' (by decide)] | rw [blkT_ret] | rw [blkT_norm] | rw [blkT_exit] | rw [blkT_exit' (by decide)] | rw [s_blk] | rw [s_reg (by simp [go_sem, e7, e8, e9, e10, f1, f2, w0', w1', w2', w3']; exact ⟨rfl, rfl⟩)] | rw [t_cnd (by simp [lk, keepEnv, Od.v, e7, e8, e9, e10, f1, f2, w0', w1', w2', w3']; exact rfl)] | rw [t_blk])); simp [ends_ret, ends_norm, resL, go_sem, fin, fz0, fz1, fzT, fzL, nlt, e7, e8, e9, e10, f1, f2, w0', w1', w2', w3']
  by_cases n0 : 32 ≤ q.filter.length
  · have n0' : (32 : Int) ≤ (q.filter.length : Int) := by omega
    clear hA hC hq hl p0
    obtain ⟨cols, k1, k2, k3, k4⟩ := s
    obtain ⟨fl, co, gr, ag, so, lim⟩ := q
    simp only [schD, schC, qryC] at *
    rcases w23 with rfl | rfl
    · rw [E_go (X := X) _ b3 _ rfl rfl]; unfold b3; (repeat (first | rw [s_assoc] | rw [s_seq_reg (by simp [go_sem, e7, e8, e9, e10, f1, f2, w0', w1', vF, n0, n0']; exact ⟨rfl, rfl⟩)] | rw [s_cnd (by simp [lk, keepEnv, Od.v, e7, e8, e9, e10, f1, f2, w0', w1', vF, n0, n0']; exact rfl)] | rw [cnd_t] | rw [cnd_f] | rw [s_skip] | rw [s_ret] | rw [s_exit] | rw [C_ret] | rw [C_exit] | rw [C_skip] | rw [blk_ret] | rw [blk_norm] | rw [blk_exit] | rw [blk_exit' (by decide)] | rw [blkT_ret] | rw [blkT_norm] | rw [blkT_exit] | rw [blkT_exit' (by decide)] | rw [s_blk] | rw [s_reg (by simp [go_sem, e7, e8, e9, e10, f1, f2, w0', w1', vF, n0, n0']; exact ⟨rfl, rfl⟩)] | rw [t_cnd (by simp [lk, keepEnv, Od.v, e7, e8, e9, e10, f1, f2, w0', w1', vF, n0, n0']; exact rfl)] | rw [t_blk])); simp [ends_ret, ends_norm, resL, go_sem, fin, fz0, fz1, fzT, fzL, nlt, e7, e8, e9, e10, f1, f2, w0', w1', vF, n0, n0']
    · rw [E_go (X := X) _ b3 _ rfl rfl]; unfold b3; (repeat (first | rw [s_assoc] | rw [s_seq_reg (by simp [go_sem, e7, e8, e9, e10, f1, f2, w0', w1', vF, n0, n0']; exact ⟨rfl, rfl⟩)] | rw [s_cnd (by simp [lk, keepEnv, Od.v, e7, e8, e9, e10, f1, f2, w0', w1', vF, n0, n0']; exact rfl)] | rw [cnd_t] | rw [cnd_f] | rw [s_skip] | rw [s_ret] | rw [s_exit] | rw [C_ret] | rw [C_exit] | rw [C_skip] | rw [blk_ret] | rw [blk_norm] | rw [blk_exit] | rw [blk_exit' (by decide)] | rw [blkT_ret] | rw [blkT_norm] | rw [blkT_exit] | rw [blkT_exit' (by decide)] | rw [s_blk] | rw [s_reg (by simp [go_sem, e7, e8, e9, e10, f1, f2, w0', w1', vF, n0, n0']; exact ⟨rfl, rfl⟩)] | rw [t_cnd (by simp [lk, keepEnv, Od.v, e7, e8, e9, e10, f1, f2, w0', w1', vF, n0, n0']; exact rfl)] | rw [t_blk])); simp [ends_ret, ends_norm, resL, go_sem, fin, fz0, fz1, fzT, fzL, nlt, e7, e8, e9, e10, f1, f2, w0', w1', vF, n0, n0']
  have n0' : ¬ (32 : Int) ≤ (q.filter.length : Int) := by omega
  have sF := hA.sf
  have y1 : ∀ a b c d e f g i, Wc 8 (.agg [.int .i64 a, .int .i64 b, .int .i64 c, .int .i64 d, .str e, .bool f, .int .i64 g, .int .i64 i]) := fun a b c d e f g i => by simp [Wc, DV.cells, DV.one]
  have y2 : ∀ a b c d e f g i, Nr (.agg [.int .i64 a, .int .i64 b, .int .i64 c, .int .i64 d, .str e, .bool f, .int .i64 g, .int .i64 i]) := fun a b c d e f g i => .agg (by intro x hx; simp at hx; rcases hx with rfl | rfl | rfl | rfl | rfl | rfl | rfl | rfl <;> first | exact .int _ _ | exact .str _ | exact .bool _)
  have y3 : ∀ a b c d e f g i h, srcOf h 8 (.list 8 [.agg [.int .i64 a, .int .i64 b, .int .i64 c, .int .i64 d, .str e, .bool f, .int .i64 g, .int .i64 i]] true) = some [.agg [.int .i64 a, .int .i64 b, .int .i64 c, .int .i64 d, .str e, .bool f, .int .i64 g, .int .i64 i]] := fun _ _ _ _ _ _ _ _ _ => rfl
  have vn : ∀ g, vw g 8 .nils = some [] := fun _ => rfl
  -- the filter, with one node more
  have grow : ∀ (x : N), ∃ d1 h1 d2 h2, appx [.box 24 (schC Cd s), .box 30 (qryC F Cn Gr Ag So q.lim)] 41 8 72 .nils [] (q.filter.map N.d) = some (d1, h1) ∧ kpo true [.box 24 (schC Cd s), .box 30 (qryC F Cn Gr Ag So q.lim)] (d1, h1) = some (d1, h1) ∧ vw h1 8 d1 = some (q.filter.map N.d) ∧ appx h1 41 8 72 d1 (q.filter.map N.d) [x.d] = some (d2, h2) ∧
      h1[1]? = some (.box 30 (qryC F Cn Gr Ag So q.lim)) ∧ h1[0]? = some (.box 24 (schC Cd s)) ∧ h2[1]? = some (.box 30 (qryC F Cn Gr Ag So q.lim)) ∧ h2[0]? = some (.box 24 (schC Cd s)) ∧ (∃ o g n, d2 = .row o g 0 n false) ∧ (∀ y G, vw (h2.set 1 y ++ G) 8 d2 = some ((q.filter ++ [x]).map N.d)) := by
    intro x
    have g0 : Gro 41 8 [.box 24 (schC Cd s), .box 30 (qryC F Cn Gr Ag So q.lim)] [.box 24 (schC Cd s), .box 30 (qryC F Cn Gr Ag So q.lim)] .nils [] := Gro.zero
    obtain ⟨d1, h1, a1, g1⟩ := g0.app 72 (q.filter.map N.d) (by simp; omega)
    rw [List.nil_append] at g1
    obtain ⟨d2, h2, a2, g2⟩ := g1.app 72 [x.d] (by simp; omega)
    refine ⟨d1, h1, d2, h2, a1, ?_, g1.vw, a2, pre_get g1.1 rfl, pre_get g1.1 rfl, pre_get g2.1 rfl, pre_get g2.1 rfl, ?_, fun y G => ?_⟩
    · rw [kpo, if_pos ⟨rfl, g1.1⟩]
    · rcases g2.2 with ⟨_, h⟩ | ⟨g, o, h, _, _⟩
      · simp at h
      · exact ⟨_, _, _, h⟩
    · rcases g2.2 with ⟨_, h⟩ | ⟨g, o, rfl, h3, h4⟩
      · simp at h
      · have ho : 2 ≤ o := h3
        have hlt := (List.getElem?_eq_some_iff.1 h4).1
        have h5 : (h2.set 1 y ++ G)[o]? = some (.row 41 8 g (q.filter.map N.d ++ [x.d])) := by
          rw [List.getElem?_append_left (by rw [List.length_set]; exact hlt), List.getElem?_set_ne (by omega)]
          exact h4
        rw [List.map_append]
        simp [vw, h5, List.take_of_length_le]
  rcases w23 with rfl | rfl
  · obtain ⟨m, hm⟩ : ∃ m : Int, m = q.filter.length + far := ⟨_, rfl⟩
    have z1 : IntKind.i64.wrap ((q.filter.length : Int) + far) = m := by rw [wrap64 _ (by omega) (by omega)]; omega
    obtain ⟨d1, h1, d2, h2, a1, kp, w1v, a2, g1, g0, g3, g2, ⟨oo, og, on, rfl⟩, vv⟩ := grow (nodN 10 0 m)
    obtain ⟨d2, hd2⟩ : ∃ d2, d2 = DV.row oo og 0 on false := ⟨_, rfl⟩
    rw [← hd2] at a2 vv
    obtain ⟨h3, hh3⟩ : ∃ h3, h3 = h2.set 1 (.box 30 (qryC d2 Cn Gr Ag So q.lim)) := ⟨_, rfl⟩
    have r1 : h3[1]? = some (.box 30 (qryC d2 Cn Gr Ag So q.lim)) := by rw [hh3]; exact List.getElem?_set_self (List.getElem?_eq_some_iff.1 g3).1
    have r0 : h3[0]? = some (.box 24 (schC Cd s)) := by rw [hh3, List.getElem?_set_ne (by omega)]; exact g2
    have e10b := run10 (H := h3) (F := d2) (q := { q with filter := q.filter ++ [nodN 10 0 m] }) hC (by omega) { hq with f := fun G => by rw [hh3]; exact vv _ G, nf := by simp; omega }
    rw [more_filter p0 (by omega) (e := 5) (by omega) (node_not (by omega))] at e10b
    have hh3' := hh3.symm
    subst hd2
    clear hA hC hq hl p0 grow vv hh3 hm
    simp only [nodN, N.d] at *
    obtain ⟨cols, k1, k2, k3, k4⟩ := s
    obtain ⟨fl, co, gr, ag, so, lim⟩ := q
    simp only [schD, schC, qryC] at *
    rw [E_go (X := X) _ b3 _ rfl rfl]; unfold b3; (repeat (first | rw [s_assoc] | rw [s_seq_reg (by simp [go_sem, e7, e8, e9, e10, e10b, f1, f2, w0', w1', vF, sF, vn, n0, n0', z1, y1, y2, y3, a1, kp, w1v, a2, g1, g0, g3, g2, hh3', r1, r0]; exact ⟨rfl, rfl⟩)] | rw [s_cnd (by simp [lk, keepEnv, Od.v, e7, e8, e9, e10, e10b, f1, f2, w0', w1', vF, sF, vn, n0, n0', z1, y1, y2, y3, a1, kp, w1v, a2, g1, g0, g3, g2, hh3', r1, r0]; exact rfl)] | rw [cnd_t] | rw [cnd_f] | rw [s_skip] | rw [s_ret] | rw [s_exit] | rw [C_ret] | rw [C_exit] | rw [C_skip] | rw [blk_ret] | rw [blk_norm] | rw [blk_exit] | rw [blk_exit' (by decide)] | rw [blkT_ret] | rw [blkT_norm] | rw [blkT_exit] | rw [blkT_exit' (by decide)] | rw [s_blk] | rw [s_reg (by simp [go_sem, e7, e8, e9, e10, e10b, f1, f2, w0', w1', vF, sF, vn, n0, n0', z1, y1, y2, y3, a1, kp, w1v, a2, g1, g0, g3, g2, hh3', r1, r0]; exact ⟨rfl, rfl⟩)] | rw [t_cnd (by simp [lk, keepEnv, Od.v, e7, e8, e9, e10, e10b, f1, f2, w0', w1', vF, sF, vn, n0, n0', z1, y1, y2, y3, a1, kp, w1v, a2, g1, g0, g3, g2, hh3', r1, r0]; exact rfl)] | rw [t_blk])); simp [ends_ret, ends_norm, resL, go_sem, fin, fz0, fz1, fzT, fzL, nlt, e7, e8, e9, e10, e10b, f1, f2, w0', w1', vF, sF, vn, n0, n0', z1, y1, y2, y3, a1, kp, w1v, a2, g1, g0, g3, g2, hh3', r1, r0]
  · obtain ⟨m, hm⟩ : ∃ m : Int, m = s.cols.length + far := ⟨_, rfl⟩
    have z1 : IntKind.i64.wrap ((s.cols.length : Int) + far) = m := by rw [wrap64 _ (by omega) (by omega)]; omega
    obtain ⟨d1, h1, d2, h2, a1, kp, w1v, a2, g1, g0, g3, g2, ⟨oo, og, on, rfl⟩, vv⟩ := grow (nodN 7 m 0)
    obtain ⟨d2, hd2⟩ : ∃ d2, d2 = DV.row oo og 0 on false := ⟨_, rfl⟩
    rw [← hd2] at a2 vv
    obtain ⟨h3, hh3⟩ : ∃ h3, h3 = h2.set 1 (.box 30 (qryC d2 Cn Gr Ag So q.lim)) := ⟨_, rfl⟩
    have r1 : h3[1]? = some (.box 30 (qryC d2 Cn Gr Ag So q.lim)) := by rw [hh3]; exact List.getElem?_set_self (List.getElem?_eq_some_iff.1 g3).1
    have r0 : h3[0]? = some (.box 24 (schC Cd s)) := by rw [hh3, List.getElem?_set_ne (by omega)]; exact g2
    have e10b := run10 (H := h3) (F := d2) (q := { q with filter := q.filter ++ [nodN 7 m 0] }) hC (by omega) { hq with f := fun G => by rw [hh3]; exact vv _ G, nf := by simp; omega }
    rw [more_filter p0 (by omega) (e := 3) (by omega) (node_is (by omega))] at e10b
    have hh3' := hh3.symm
    subst hd2
    clear hA hq hl p0 grow vv hh3 hm
    simp only [nodN, N.d] at *
    obtain ⟨cols, k1, k2, k3, k4⟩ := s
    obtain ⟨fl, co, gr, ag, so, lim⟩ := q
    simp only [schD, schC, qryC] at *
    rw [E_go (X := X) _ b3 _ rfl rfl]; unfold b3; (repeat (first | rw [s_assoc] | rw [s_seq_reg (by simp [go_sem, e7, e8, e9, e10, e10b, f1, f2, w0', w1', vF, hC, sF, vn, n0, n0', z1, y1, y2, y3, a1, kp, w1v, a2, g1, g0, g3, g2, hh3', r1, r0]; exact ⟨rfl, rfl⟩)] | rw [s_cnd (by simp [lk, keepEnv, Od.v, e7, e8, e9, e10, e10b, f1, f2, w0', w1', vF, hC, sF, vn, n0, n0', z1, y1, y2, y3, a1, kp, w1v, a2, g1, g0, g3, g2, hh3', r1, r0]; exact rfl)] | rw [cnd_t] | rw [cnd_f] | rw [s_skip] | rw [s_ret] | rw [s_exit] | rw [C_ret] | rw [C_exit] | rw [C_skip] | rw [blk_ret] | rw [blk_norm] | rw [blk_exit] | rw [blk_exit' (by decide)] | rw [blkT_ret] | rw [blkT_norm] | rw [blkT_exit] | rw [blkT_exit' (by decide)] | rw [s_blk] | rw [s_reg (by simp [go_sem, e7, e8, e9, e10, e10b, f1, f2, w0', w1', vF, hC, sF, vn, n0, n0', z1, y1, y2, y3, a1, kp, w1v, a2, g1, g0, g3, g2, hh3', r1, r0]; exact ⟨rfl, rfl⟩)] | rw [t_cnd (by simp [lk, keepEnv, Od.v, e7, e8, e9, e10, e10b, f1, f2, w0', w1', vF, hC, sF, vn, n0, n0', z1, y1, y2, y3, a1, kp, w1v, a2, g1, g0, g3, g2, hh3', r1, r0]; exact rfl)] | rw [t_blk])); simp [ends_ret, ends_norm, resL, go_sem, fin, fz0, fz1, fzT, fzL, nlt, e7, e8, e9, e10, e10b, f1, f2, w0', w1', vF, hC, sF, vn, n0, n0', z1, y1, y2, y3, a1, kp, w1v, a2, g1, g0, g3, g2, hh3', r1, r0]
end Go.Proofs.YtobpbjmnonbblaaDoor
