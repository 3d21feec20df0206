/- Ideal runs: slices.Concat, query.Check. -/
import Derived.Test.YtobpbjmnonbblaaDoorQryE
namespace Go.Proofs.YtobpbjmnonbblaaDoor
attribute [local go_sem] evOps evOp_n evOp_r evOp_d evOp_dr kpo_refl kpo_app cnd_some cnd_pair cnd_cnd_t cnd_cnd_f cnd_same cnd_dvb cnd_and cnd_or gd_bool gd_boolf gd_tup cnd_t cnd_f evTo isCall evx put lk Od.v keepEnv enterEnv ldx_ref rdc binx binI binS unx eqk DV.isU DV.cells hget hget0 hset hset0 stx_ref splice fillp mat eqcs eqs one_bool one_int one_str one_nilp one_ref one_elem one_nils one_list one_row one_nilm one_map one_nilf one_func one_nili one_ifc one_agg one_tup one_undef one_fresh
attribute [local go_sem ↓] evx_pick
set_option linter.unusedVariables false
set_option linter.unusedSimpArgs false
set_option maxRecDepth 10000
/-- A list that grows, behind H. -/
def Gro (T sz : Nat) (H h : Heap) (d : DV) (xs : List DV) : Prop :=
  h.take H.length = H ∧ ((d = .nils ∧ xs = []) ∨ ∃ g o, d = .row o g 0 xs.length false ∧ H.length ≤ o ∧ h[o]? = some (.row T sz g xs))
theorem take_leG {H h : Heap} (ht : h.take H.length = H) : H.length ≤ h.length := by
  have := congrArg List.length ht
  rw [List.length_take] at this; omega
section
variable {T sz : Nat} {H h : Heap} {d : DV} {xs : List DV}
theorem Gro.zero : Gro T sz H H .nils [] := ⟨List.take_length, .inl ⟨rfl, rfl⟩⟩
theorem Gro.ext (hg : Gro T sz H h d xs) (G : Heap) : Gro T sz H (h ++ G) d xs := by
  obtain ⟨ht, hr⟩ := hg
  refine ⟨?_, ?_⟩
  · rw [List.take_append_of_le_length (take_leG ht)]; exact ht
  · rcases hr with hr | ⟨g, o, h1, h2, h3⟩
    · exact .inl hr
    · exact .inr ⟨g, o, h1, h2, by rw [List.getElem?_append_left (List.getElem?_eq_some_iff.1 h3).1]; exact h3⟩
theorem Gro.vw (hg : Gro T sz H h d xs) : vw h sz d = some xs := by
  rcases hg.2 with ⟨rfl, rfl⟩ | ⟨g, o, rfl, h2, h3⟩
  · rfl
  · simp [Go.Proofs.YtobpbjmnonbblaaDoor.vw, h3, List.take_of_length_le]
theorem Gro.app (hg : Gro T sz H h d xs) (b : Nat) (ys : List DV) (hb : (xs.length + ys.length) * b ≤ 140737488355328) : ∃ d' h', appx h T sz b d xs ys = some (d', h') ∧ Gro T sz H h' d' (xs ++ ys) := by
  by_cases hy : ys = []
  · subst hy
    exact ⟨d, h, by simp [appx], by rw [List.append_nil]; exact hg⟩
  · obtain ⟨ht, hr⟩ := hg
    rcases hr with ⟨rfl, rfl⟩ | ⟨g, o, rfl, h2, h3⟩
    · refine ⟨.row h.length 0 0 ys.length false, h ++ [.row T sz 0 ys], ?_, ?_, .inr ⟨0, h.length, by simp, take_leG ht, by simp⟩⟩
      · simp only [appx, if_neg hy]
        rw [if_pos hb]
      · rw [List.take_append_of_le_length (take_leG ht)]; exact ht
    · have hlt := (List.getElem?_eq_some_iff.1 h3).1
      refine ⟨.row o (g + 1) 0 (xs.length + ys.length) false, h.set o (.row T sz (g + 1) (xs ++ ys)), ?_, ?_, .inr ⟨g + 1, o, by simp, h2, ?_⟩⟩
      · simp only [appx, if_neg hy, h3]
        rw [if_pos hb]
        simp
      · rw [List.take_set_of_le h2]; exact ht
      · rw [List.getElem?_set_self hlt]
theorem Gro.fin (hg : Gro T sz H h d xs) (hn : ∀ x ∈ xs, Nr x) : (d = .nils ∧ fin H h [d] = (.nils, H)) ∨ (d ≠ .nils ∧ fin H h [d] = (.fresh T sz xs, H)) := by
  obtain ⟨ht, hr⟩ := hg
  rcases hr with ⟨rfl, rfl⟩ | ⟨g, o, rfl, h2, h3⟩
  · exact .inl ⟨rfl, by simp [Go.Proofs.YtobpbjmnonbblaaDoor.fin, ht, fz1, fz0]⟩
  · refine .inr ⟨by simp, ?_⟩
    simp only [Go.Proofs.YtobpbjmnonbblaaDoor.fin]
    rw [if_pos ht]
    simp only [fz1, fz0]
    rw [if_neg (by omega), h3]
    simp only
    rw [if_pos ⟨rfl, by simp, hn⟩]
    simp
end
def conD (l : List Int) : DV := if l = [] then .nils else .fresh 3 1 (l.map intD)
set_option maxHeartbeats 1000000 in
theorem run22 {A B : DV} {la lb : List Int} (hA : SlI A la) (hB : SlI B lb) (ha : la.length ≤ 1000) (hb : lb.length ≤ 1000) (H : Heap) : E X 22 [.list 1 [A, B] true] H = some (conD (la ++ lb), H) := by
  have vA := hA.vw
  have vB := hB.vw
  have cA : A.cells = [A] := by rcases hA with ⟨c, rfl⟩ | ⟨rfl, _⟩ <;> rfl
  have cB : B.cells = [B] := by rcases hB with ⟨c, rfl⟩ | ⟨rfl, _⟩ <;> rfl
  have sA : ∀ g, srcOf g 1 A = some (la.map intD) := fun g => by rcases hA with ⟨c, rfl⟩ | ⟨rfl, rfl⟩ <;> rfl
  have sB : ∀ g, srcOf g 1 B = some (lb.map intD) := fun g => by rcases hB with ⟨c, rfl⟩ | ⟨rfl, rfl⟩ <;> rfl
  obtain ⟨n, hn⟩ : ∃ n, n = la.length + lb.length := ⟨_, rfl⟩
  have z0 : IntKind.i64.wrap (la.length : Int) = (la.length : Int) := wrap64 _ (by omega) (by omega)
  have z1 : IntKind.i64.wrap ((la.length : Int) + (lb.length : Int)) = (n : Int) := (by rw [wrap64 _ (by omega) (by omega)]; omega)
  have w00 : IntKind.i64.wrap 0 = 0 := wrap64 _ (by omega) (by omega)
  have z2 : IntKind.i64.wrap 1 = 1 := wrap64 _ (by omega) (by omega)
  have z3 : IntKind.i64.wrap (1 + 1) = 2 := wrap64 _ (by omega) (by omega)
  have z3' : IntKind.i64.wrap 2 = 2 := wrap64 _ (by omega) (by omega)
  have d1 : ¬ (la.length : Int) < 0 := by omega
  have d2 : ¬ (n : Int) < 0 := by omega
  obtain ⟨L, hL⟩ : ∃ L, L = DV.list 1 [A, B] true := ⟨_, rfl⟩
  have vL : ∀ g, vw g 1 L = some [A, B] := fun g => by rw [hL]; rfl
  rw [← hL]
  clear hL
  have s1 : ∀ g, C X lp22_0 [(0, L), (3, .int .i64 0), (9, L), (10, .int .i64 2), (11, .int .i64 0)] g = some (.norm, [(0, L), (3, .int .i64 la.length), (9, L), (10, .int .i64 2), (11, .int .i64 1)], g) := by
    intro g
    unfold lp22_0
    rcases hA with ⟨c, rfl⟩ | ⟨rfl, rfl⟩
    · (repeat (first | rw [s_assoc] | rw [s_seq_reg (by simp [go_sem, vL, vA, z0, z2, d1, ldx]; exact ⟨rfl, rfl⟩)] | rw [s_cnd (by simp [lk, keepEnv, Od.v, vL, vA, z0, z2, d1, ldx]; exact rfl)] | rw [cnd_t] | rw [cnd_f] | rw [s_skip] | rw [s_ret] | rw [s_exit] | rw [C_ret] | rw [C_exit] | rw [C_skip] | rw [blk_ret] | rw [blk_norm] | rw [blk_exit] | rw [blk_exit' (by decide)] | rw [blkT_ret] | rw [blkT_norm] | rw [blkT_exit] | rw [blkT_exit' (by decide)] | rw [s_blk] | rw [s_reg (by simp [go_sem, vL, vA, z0, z2, d1, ldx]; exact ⟨rfl, rfl⟩)] | rw [t_cnd (by simp [lk, keepEnv, Od.v, vL, vA, z0, z2, d1, ldx]; exact rfl)] | rw [t_blk]))
      simp [keepEnv, lk]
    · (repeat (first | rw [s_assoc] | rw [s_seq_reg (by simp [go_sem, vL, vA, w00, z0, z2, d1, ldx]; exact ⟨rfl, rfl⟩)] | rw [s_cnd (by simp [lk, keepEnv, Od.v, vL, vA, w00, z0, z2, d1, ldx]; exact rfl)] | rw [cnd_t] | rw [cnd_f] | rw [s_skip] | rw [s_ret] | rw [s_exit] | rw [C_ret] | rw [C_exit] | rw [C_skip] | rw [blk_ret] | rw [blk_norm] | rw [blk_exit] | rw [blk_exit' (by decide)] | rw [blkT_ret] | rw [blkT_norm] | rw [blkT_exit] | rw [blkT_exit' (by decide)] | rw [s_blk] | rw [s_reg (by simp [go_sem, vL, vA, w00, z0, z2, d1, ldx]; exact ⟨rfl, rfl⟩)] | rw [t_cnd (by simp [lk, keepEnv, Od.v, vL, vA, w00, z0, z2, d1, ldx]; exact rfl)] | rw [t_blk]))
      simp [keepEnv, lk]
  have s2 : ∀ g, C X lp22_0 [(0, L), (3, .int .i64 la.length), (9, L), (10, .int .i64 2), (11, .int .i64 1)] g = some (.norm, [(0, L), (3, .int .i64 n), (9, L), (10, .int .i64 2), (11, .int .i64 2)], g) := by
    intro g
    unfold lp22_0
    rcases hB with ⟨c, rfl⟩ | ⟨rfl, rfl⟩
    · (repeat (first | rw [s_assoc] | rw [s_seq_reg (by simp [go_sem, vL, vB, z1, z3, z3', d2, ldx]; exact ⟨rfl, rfl⟩)] | rw [s_cnd (by simp [lk, keepEnv, Od.v, vL, vB, z1, z3, z3', d2, ldx]; exact rfl)] | rw [cnd_t] | rw [cnd_f] | rw [s_skip] | rw [s_ret] | rw [s_exit] | rw [C_ret] | rw [C_exit] | rw [C_skip] | rw [blk_ret] | rw [blk_norm] | rw [blk_exit] | rw [blk_exit' (by decide)] | rw [blkT_ret] | rw [blkT_norm] | rw [blkT_exit] | rw [blkT_exit' (by decide)] | rw [s_blk] | rw [s_reg (by simp [go_sem, vL, vB, z1, z3, z3', d2, ldx]; exact ⟨rfl, rfl⟩)] | rw [t_cnd (by simp [lk, keepEnv, Od.v, vL, vB, z1, z3, z3', d2, ldx]; exact rfl)] | rw [t_blk]))
      simp [keepEnv, lk]
    · have z1' := z1
      simp at z1'
      (repeat (first | rw [s_assoc] | rw [s_seq_reg (by simp [go_sem, vL, vB, z1, z1', z3, z3', d2, ldx]; exact ⟨rfl, rfl⟩)] | rw [s_cnd (by simp [lk, keepEnv, Od.v, vL, vB, z1, z1', z3, z3', d2, ldx]; exact rfl)] | rw [cnd_t] | rw [cnd_f] | rw [s_skip] | rw [s_ret] | rw [s_exit] | rw [C_ret] | rw [C_exit] | rw [C_skip] | rw [blk_ret] | rw [blk_norm] | rw [blk_exit] | rw [blk_exit' (by decide)] | rw [blkT_ret] | rw [blkT_norm] | rw [blkT_exit] | rw [blkT_exit' (by decide)] | rw [s_blk] | rw [s_reg (by simp [go_sem, vL, vB, z1, z1', z3, z3', d2, ldx]; exact ⟨rfl, rfl⟩)] | rw [t_cnd (by simp [lk, keepEnv, Od.v, vL, vB, z1, z1', z3, z3', d2, ldx]; exact rfl)] | rw [t_blk]))
      simp [keepEnv, lk]
  have s3 : ∀ g, C X lp22_0 [(0, L), (3, .int .i64 n), (9, L), (10, .int .i64 2), (11, .int .i64 2)] g = some (.exit 0, [(0, L), (3, .int .i64 n), (9, L), (10, .int .i64 2), (11, .int .i64 2), (12, .bool false)], g) := by
    intro g
    unfold lp22_0
    (repeat (first | rw [s_assoc] | rw [s_seq_reg (by simp [go_sem]; exact ⟨rfl, rfl⟩)] | rw [s_cnd (by simp [lk, keepEnv, Od.v]; exact rfl)] | rw [cnd_t] | rw [cnd_f] | rw [s_skip] | rw [s_ret] | rw [s_exit] | rw [C_ret] | rw [C_exit] | rw [C_skip] | rw [blk_ret] | rw [blk_norm] | rw [blk_exit] | rw [blk_exit' (by decide)] | rw [blkT_ret] | rw [blkT_norm] | rw [blkT_exit] | rw [blkT_exit' (by decide)] | rw [s_blk] | rw [s_reg (by simp [go_sem]; exact ⟨rfl, rfl⟩)] | rw [t_cnd (by simp [lk, keepEnv, Od.v]; exact rfl)] | rw [t_blk]))
    simp [keepEnv, lk]
  have hl1 : ∀ g, C X (.loop lp22_0) [(0, L), (3, .int .i64 0), (9, L), (10, .int .i64 2), (11, .int .i64 0)] g = some (.exit 0, [(0, L), (3, .int .i64 n), (9, L), (10, .int .i64 2), (11, .int .i64 2), (12, .bool false)], g) := by
    intro g
    rw [t_loop, s1, lp_norm, t_loop, s2, lp_norm, t_loop, s3, lp_exit]
  have t3 : ∀ d g, C X lp22_1 [(6, d), (25, L), (26, .int .i64 2), (27, .int .i64 2)] g = some (.exit 2, [(6, d), (25, L), (26, .int .i64 2), (27, .int .i64 2), (28, .bool false)], g) := by
    intro d g
    unfold lp22_1
    (repeat (first | rw [s_assoc] | rw [s_seq_reg (by simp [go_sem]; exact ⟨rfl, rfl⟩)] | rw [s_cnd (by simp [lk, keepEnv, Od.v]; exact rfl)] | rw [cnd_t] | rw [cnd_f] | rw [s_skip] | rw [s_ret] | rw [s_exit] | rw [C_ret] | rw [C_exit] | rw [C_skip] | rw [blk_ret] | rw [blk_norm] | rw [blk_exit] | rw [blk_exit' (by decide)] | rw [blkT_ret] | rw [blkT_norm] | rw [blkT_exit] | rw [blkT_exit' (by decide)] | rw [s_blk] | rw [s_reg (by simp [go_sem]; exact ⟨rfl, rfl⟩)] | rw [t_cnd (by simp [lk, keepEnv, Od.v]; exact rfl)] | rw [t_blk]))
    simp [keepEnv, lk]
  have hl2 : ∀ d0 h0, Gro 3 1 H h0 d0 [] → ∃ d2 h2, C X (.loop lp22_1) [(6, d0), (25, L), (26, .int .i64 2), (27, .int .i64 0)] h0 = some (.exit 2, [(6, d2), (25, L), (26, .int .i64 2), (27, .int .i64 2), (28, .bool false)], h2) ∧ Gro 3 1 H h2 d2 ((la ++ lb).map intD) ∧ (d0 ≠ .nils → d2 ≠ .nils) := by
    intro d0 h0 g0
    obtain ⟨d1, h1, a1, g1⟩ := g0.app 8 (la.map intD) (by simp; omega)
    obtain ⟨d2, h2, a2, g2⟩ := g1.app 8 (lb.map intD) (by simp; omega)
    have w0 := g0.vw
    have w1 := g1.vw
    rw [List.nil_append] at g1 w1 a2 g2
    have t1 : C X lp22_1 [(6, d0), (25, L), (26, .int .i64 2), (27, .int .i64 0)] h0 = some (.norm, [(6, d1), (25, L), (26, .int .i64 2), (27, .int .i64 1)], h1) := by
      clear g0 g1 g2 hl1 s1 s2 s3 t3 a2
      unfold lp22_1
      rcases hA with ⟨c, rfl⟩ | ⟨rfl, rfl⟩
      · (repeat (first | rw [s_assoc] | rw [s_seq_reg (by simp [go_sem, vL, vA, sA, w0, a1, z2, ldx]; exact ⟨rfl, rfl⟩)] | rw [s_cnd (by simp [lk, keepEnv, Od.v, vL, vA, sA, w0, a1, z2, ldx]; exact rfl)] | rw [cnd_t] | rw [cnd_f] | rw [s_skip] | rw [s_ret] | rw [s_exit] | rw [C_ret] | rw [C_exit] | rw [C_skip] | rw [blk_ret] | rw [blk_norm] | rw [blk_exit] | rw [blk_exit' (by decide)] | rw [blkT_ret] | rw [blkT_norm] | rw [blkT_exit] | rw [blkT_exit' (by decide)] | rw [s_blk] | rw [s_reg (by simp [go_sem, vL, vA, sA, w0, a1, z2, ldx]; exact ⟨rfl, rfl⟩)] | rw [t_cnd (by simp [lk, keepEnv, Od.v, vL, vA, sA, w0, a1, z2, ldx]; exact rfl)] | rw [t_blk]))
        simp [keepEnv, lk]
      · (try simp only [List.map_nil] at *)
        (repeat (first | rw [s_assoc] | rw [s_seq_reg (by simp [go_sem, vL, vA, sA, w0, a1, z2, ldx]; exact ⟨rfl, rfl⟩)] | rw [s_cnd (by simp [lk, keepEnv, Od.v, vL, vA, sA, w0, a1, z2, ldx]; exact rfl)] | rw [cnd_t] | rw [cnd_f] | rw [s_skip] | rw [s_ret] | rw [s_exit] | rw [C_ret] | rw [C_exit] | rw [C_skip] | rw [blk_ret] | rw [blk_norm] | rw [blk_exit] | rw [blk_exit' (by decide)] | rw [blkT_ret] | rw [blkT_norm] | rw [blkT_exit] | rw [blkT_exit' (by decide)] | rw [s_blk] | rw [s_reg (by simp [go_sem, vL, vA, sA, w0, a1, z2, ldx]; exact ⟨rfl, rfl⟩)] | rw [t_cnd (by simp [lk, keepEnv, Od.v, vL, vA, sA, w0, a1, z2, ldx]; exact rfl)] | rw [t_blk]))
        simp [keepEnv, lk]
    have t2 : C X lp22_1 [(6, d1), (25, L), (26, .int .i64 2), (27, .int .i64 1)] h1 = some (.norm, [(6, d2), (25, L), (26, .int .i64 2), (27, .int .i64 2)], h2) := by
      clear g0 g1 g2 hl1 s1 s2 s3 t3 t1 a1
      unfold lp22_1
      rcases hB with ⟨c, rfl⟩ | ⟨rfl, rfl⟩
      · (repeat (first | rw [s_assoc] | rw [s_seq_reg (by simp [go_sem, vL, vB, sB, w1, a2, z3, z3', ldx]; exact ⟨rfl, rfl⟩)] | rw [s_cnd (by simp [lk, keepEnv, Od.v, vL, vB, sB, w1, a2, z3, z3', ldx]; exact rfl)] | rw [cnd_t] | rw [cnd_f] | rw [s_skip] | rw [s_ret] | rw [s_exit] | rw [C_ret] | rw [C_exit] | rw [C_skip] | rw [blk_ret] | rw [blk_norm] | rw [blk_exit] | rw [blk_exit' (by decide)] | rw [blkT_ret] | rw [blkT_norm] | rw [blkT_exit] | rw [blkT_exit' (by decide)] | rw [s_blk] | rw [s_reg (by simp [go_sem, vL, vB, sB, w1, a2, z3, z3', ldx]; exact ⟨rfl, rfl⟩)] | rw [t_cnd (by simp [lk, keepEnv, Od.v, vL, vB, sB, w1, a2, z3, z3', ldx]; exact rfl)] | rw [t_blk]))
        simp [keepEnv, lk]
      · (try simp only [List.map_nil] at *)
        (repeat (first | rw [s_assoc] | rw [s_seq_reg (by simp [go_sem, vL, vB, sB, w1, a2, z3, z3', ldx]; exact ⟨rfl, rfl⟩)] | rw [s_cnd (by simp [lk, keepEnv, Od.v, vL, vB, sB, w1, a2, z3, z3', ldx]; exact rfl)] | rw [cnd_t] | rw [cnd_f] | rw [s_skip] | rw [s_ret] | rw [s_exit] | rw [C_ret] | rw [C_exit] | rw [C_skip] | rw [blk_ret] | rw [blk_norm] | rw [blk_exit] | rw [blk_exit' (by decide)] | rw [blkT_ret] | rw [blkT_norm] | rw [blkT_exit] | rw [blkT_exit' (by decide)] | rw [s_blk] | rw [s_reg (by simp [go_sem, vL, vB, sB, w1, a2, z3, z3', ldx]; exact ⟨rfl, rfl⟩)] | rw [t_cnd (by simp [lk, keepEnv, Od.v, vL, vB, sB, w1, a2, z3, z3', ldx]; exact rfl)] | rw [t_blk]))
        simp [keepEnv, lk]
    refine ⟨d2, h2, by rw [t_loop, t1, lp_norm, t_loop, t2, lp_norm, t_loop, t3, lp_exit], by rw [List.map_append]; exact g2, ?_⟩
    intro hne h2n
    have step : ∀ {h h' : Heap} {d d' : DV} {xs ys : List DV}, appx h 3 1 8 d xs ys = some (d', h') → d ≠ .nils → d' ≠ .nils := by
      intro h h' d d' xs ys ha hd hd'
      subst hd'
      unfold appx at ha
      split at ha
      · injection ha with ha; injection ha with ha1 ha2; exact hd ha1
      · split at ha
        · split at ha
          · injection ha with ha; injection ha with ha1 ha2; cases ha1
          · injection ha with ha; injection ha with ha1 ha2; cases ha1
          · injection ha with ha; injection ha with ha1 ha2; cases ha1
          · split at ha
            · split at ha
              · injection ha with ha; injection ha with ha1 ha2; cases ha1
              · split at ha
                · injection ha with ha; injection ha with ha1 ha2; cases ha1
                · cases ha
            · cases ha
          · cases ha
        · cases ha
    exact step a2 (step a1 hne) h2n
  by_cases hz : n = 0
  · have q1 : la = [] := List.length_eq_zero_iff.1 (by omega)
    have q2 : lb = [] := List.length_eq_zero_iff.1 (by omega)
    obtain ⟨d2, h2, hc, g2, _⟩ := hl2 .nils H Gro.zero
    have hcon : conD (la ++ lb) = .nils := by rw [q1, q2]; rfl
    have hfin := g2.fin (nr_ints _)
    have hd2 : d2 = .nils ∨ d2 ≠ .nils := Classical.em _
    have e45 := run45z
    have hdn : d2 = .nils := by
      rcases g2.2 with ⟨h, _⟩ | ⟨g, o, h3, h4, h5⟩
      · exact h
      · exfalso
        have a0 : appx H 3 1 8 .nils [] (la.map intD) = some (.nils, H) := by rw [q1]; simp [appx]
        have a0' : appx H 3 1 8 .nils [] (lb.map intD) = some (.nils, H) := by rw [q2]; simp [appx]
        have w0 : vw H 1 .nils = some [] := rfl
        have t1 : C X lp22_1 [(6, .nils), (25, L), (26, .int .i64 2), (27, .int .i64 0)] H = some (.norm, [(6, .nils), (25, L), (26, .int .i64 2), (27, .int .i64 1)], H) := by
          clear hl1 s1 s2 s3 t3 hc hfin g2
          unfold lp22_1
          rcases hA with ⟨c, rfl⟩ | ⟨rfl, rfl⟩
          · (repeat (first | rw [s_assoc] | rw [s_seq_reg (by simp [go_sem, vL, vA, sA, w0, a0, z2, ldx]; exact ⟨rfl, rfl⟩)] | rw [s_cnd (by simp [lk, keepEnv, Od.v, vL, vA, sA, w0, a0, z2, ldx]; exact rfl)] | rw [cnd_t] | rw [cnd_f] | rw [s_skip] | rw [s_ret] | rw [s_exit] | rw [C_ret] | rw [C_exit] | rw [C_skip] | rw [blk_ret] | rw [blk_norm] | rw [blk_exit] | rw [blk_exit' (by decide)] | rw [blkT_ret] | rw [blkT_norm] | rw [blkT_exit] | rw [blkT_exit' (by decide)] | rw [s_blk] | rw [s_reg (by simp [go_sem, vL, vA, sA, w0, a0, z2, ldx]; exact ⟨rfl, rfl⟩)] | rw [t_cnd (by simp [lk, keepEnv, Od.v, vL, vA, sA, w0, a0, z2, ldx]; exact rfl)] | rw [t_blk]))
            simp [keepEnv, lk]
          · (try simp only [List.map_nil] at *)
            (repeat (first | rw [s_assoc] | rw [s_seq_reg (by simp [go_sem, vL, vA, sA, w0, a0, z2, ldx]; exact ⟨rfl, rfl⟩)] | rw [s_cnd (by simp [lk, keepEnv, Od.v, vL, vA, sA, w0, a0, z2, ldx]; exact rfl)] | rw [cnd_t] | rw [cnd_f] | rw [s_skip] | rw [s_ret] | rw [s_exit] | rw [C_ret] | rw [C_exit] | rw [C_skip] | rw [blk_ret] | rw [blk_norm] | rw [blk_exit] | rw [blk_exit' (by decide)] | rw [blkT_ret] | rw [blkT_norm] | rw [blkT_exit] | rw [blkT_exit' (by decide)] | rw [s_blk] | rw [s_reg (by simp [go_sem, vL, vA, sA, w0, a0, z2, ldx]; exact ⟨rfl, rfl⟩)] | rw [t_cnd (by simp [lk, keepEnv, Od.v, vL, vA, sA, w0, a0, z2, ldx]; exact rfl)] | rw [t_blk]))
            simp [keepEnv, lk]
        have t2 : C X lp22_1 [(6, .nils), (25, L), (26, .int .i64 2), (27, .int .i64 1)] H = some (.norm, [(6, .nils), (25, L), (26, .int .i64 2), (27, .int .i64 2)], H) := by
          clear hl1 s1 s2 s3 t3 hc hfin g2 t1
          unfold lp22_1
          rcases hB with ⟨c, rfl⟩ | ⟨rfl, rfl⟩
          · (repeat (first | rw [s_assoc] | rw [s_seq_reg (by simp [go_sem, vL, vB, sB, w0, a0', z3, z3', ldx]; exact ⟨rfl, rfl⟩)] | rw [s_cnd (by simp [lk, keepEnv, Od.v, vL, vB, sB, w0, a0', z3, z3', ldx]; exact rfl)] | rw [cnd_t] | rw [cnd_f] | rw [s_skip] | rw [s_ret] | rw [s_exit] | rw [C_ret] | rw [C_exit] | rw [C_skip] | rw [blk_ret] | rw [blk_norm] | rw [blk_exit] | rw [blk_exit' (by decide)] | rw [blkT_ret] | rw [blkT_norm] | rw [blkT_exit] | rw [blkT_exit' (by decide)] | rw [s_blk] | rw [s_reg (by simp [go_sem, vL, vB, sB, w0, a0', z3, z3', ldx]; exact ⟨rfl, rfl⟩)] | rw [t_cnd (by simp [lk, keepEnv, Od.v, vL, vB, sB, w0, a0', z3, z3', ldx]; exact rfl)] | rw [t_blk]))
            simp [keepEnv, lk]
          · (try simp only [List.map_nil] at *)
            (repeat (first | rw [s_assoc] | rw [s_seq_reg (by simp [go_sem, vL, vB, sB, w0, a0', z3, z3', ldx]; exact ⟨rfl, rfl⟩)] | rw [s_cnd (by simp [lk, keepEnv, Od.v, vL, vB, sB, w0, a0', z3, z3', ldx]; exact rfl)] | rw [cnd_t] | rw [cnd_f] | rw [s_skip] | rw [s_ret] | rw [s_exit] | rw [C_ret] | rw [C_exit] | rw [C_skip] | rw [blk_ret] | rw [blk_norm] | rw [blk_exit] | rw [blk_exit' (by decide)] | rw [blkT_ret] | rw [blkT_norm] | rw [blkT_exit] | rw [blkT_exit' (by decide)] | rw [s_blk] | rw [s_reg (by simp [go_sem, vL, vB, sB, w0, a0', z3, z3', ldx]; exact ⟨rfl, rfl⟩)] | rw [t_cnd (by simp [lk, keepEnv, Od.v, vL, vB, sB, w0, a0', z3, z3', ldx]; exact rfl)] | rw [t_blk]))
            simp [keepEnv, lk]
        rw [t_loop, t1, lp_norm, t_loop, t2, lp_norm, t_loop, t3, lp_exit] at hc
        injection hc with hc
        injection hc with hc1 hc2
        injection hc2 with hc2 hc3
        injection hc2 with hc2 hc4
        injection hc2 with hc5 hc6
        rw [← hc6] at h3
        cases h3
    have hfin : fin H h2 [d2] = (.nils, H) := by
      rcases hfin with ⟨_, h⟩ | ⟨h, _⟩
      · exact h
      · exact absurd hdn h
    subst hdn
    rw [hcon]
    subst hz
    rw [show ((0 : Nat) : Int) = 0 from rfl] at hl1
    rw [E_go (X := X) _ b22 _ rfl rfl]; unfold b22
    clear hl2 s1 s2 s3 t3 g2 q1 q2 hcon hd2
    (repeat (first | rw [s_assoc] | rw [s_seq_reg (by simp [go_sem, vL]; exact ⟨rfl, rfl⟩)] | rw [s_cnd (by simp [lk, keepEnv, Od.v, vL]; exact rfl)] | rw [cnd_t] | rw [cnd_f] | rw [s_skip] | rw [s_ret] | rw [s_exit] | rw [C_ret] | rw [C_exit] | rw [C_skip] | rw [blk_ret] | rw [blk_norm] | rw [blk_exit] | rw [blk_exit' (by decide)] | rw [blkT_ret] | rw [blkT_norm] | rw [blkT_exit] | rw [blkT_exit' (by decide)] | rw [s_blk] | rw [s_reg (by simp [go_sem, vL]; exact ⟨rfl, rfl⟩)] | rw [t_cnd (by simp [lk, keepEnv, Od.v, vL]; exact rfl)] | rw [t_blk]))
    (try simp only [keepEnv, List.map_cons, List.map_nil, lk, reduceIte, Nat.reduceEqDiff, Nat.zero_ne_one, Nat.one_ne_zero])
    rw [hl1]
    (repeat (first | rw [s_assoc] | rw [s_seq_reg (by simp [go_sem, vL, e45]; exact ⟨rfl, rfl⟩)] | rw [s_cnd (by simp [lk, keepEnv, Od.v, vL, e45]; exact rfl)] | rw [cnd_t] | rw [cnd_f] | rw [s_skip] | rw [s_ret] | rw [s_exit] | rw [C_ret] | rw [C_exit] | rw [C_skip] | rw [blk_ret] | rw [blk_norm] | rw [blk_exit] | rw [blk_exit' (by decide)] | rw [blkT_ret] | rw [blkT_norm] | rw [blkT_exit] | rw [blkT_exit' (by decide)] | rw [s_blk] | rw [s_reg (by simp [go_sem, vL, e45]; exact ⟨rfl, rfl⟩)] | rw [t_cnd (by simp [lk, keepEnv, Od.v, vL, e45]; exact rfl)] | rw [t_blk]))
    (try simp only [keepEnv, List.map_cons, List.map_nil, lk, reduceIte, Nat.reduceEqDiff, Nat.zero_ne_one, Nat.one_ne_zero])
    rw [hc]
    (repeat (first | rw [s_assoc] | rw [s_seq_reg (by simp [go_sem]; exact ⟨rfl, rfl⟩)] | rw [s_cnd (by simp [lk, keepEnv, Od.v]; exact rfl)] | rw [cnd_t] | rw [cnd_f] | rw [s_skip] | rw [s_ret] | rw [s_exit] | rw [C_ret] | rw [C_exit] | rw [C_skip] | rw [blk_ret] | rw [blk_norm] | rw [blk_exit] | rw [blk_exit' (by decide)] | rw [blkT_ret] | rw [blkT_norm] | rw [blkT_exit] | rw [blkT_exit' (by decide)] | rw [s_blk] | rw [s_reg (by simp [go_sem]; exact ⟨rfl, rfl⟩)] | rw [t_cnd (by simp [lk, keepEnv, Od.v]; exact rfl)] | rw [t_blk]))
    simp only [ends_ret, resL, lk, keepEnv, List.map_cons, List.map_nil, reduceIte, Option.map_some, Nat.reduceEqDiff, hfin]
  · have e45 := fun g => run45 (n := n) (by omega) (by omega) g
    have g0 : Gro 3 1 H (H ++ [.row 3 1 0 []]) (.row H.length 0 0 0 false) [] := ⟨by simp, .inr ⟨0, H.length, rfl, Nat.le_refl _, by simp⟩⟩
    obtain ⟨d2, h2, hc, g2, hne⟩ := hl2 _ _ g0
    have hfin := g2.fin (nr_ints _)
    have hfin : fin H h2 [d2] = (.fresh 3 1 ((la ++ lb).map intD), H) := by
      rcases hfin with ⟨h, _⟩ | ⟨_, h⟩
      · exact absurd h (hne (by simp))
      · exact h
    have hcon : conD (la ++ lb) = .fresh 3 1 ((la ++ lb).map intD) := by
      unfold conD
      rw [if_neg]
      intro h
      have := congrArg List.length h
      rw [List.length_append, List.length_nil] at this
      omega
    rw [hcon]
    generalize (la ++ lb).map intD = ll at *
    rw [E_go (X := X) _ b22 _ rfl rfl]; unfold b22
    clear hl2 s1 s2 s3 t3 g2 hcon g0 hne
    (repeat (first | rw [s_assoc] | rw [s_seq_reg (by simp [go_sem, vL]; exact ⟨rfl, rfl⟩)] | rw [s_cnd (by simp [lk, keepEnv, Od.v, vL]; exact rfl)] | rw [cnd_t] | rw [cnd_f] | rw [s_skip] | rw [s_ret] | rw [s_exit] | rw [C_ret] | rw [C_exit] | rw [C_skip] | rw [blk_ret] | rw [blk_norm] | rw [blk_exit] | rw [blk_exit' (by decide)] | rw [blkT_ret] | rw [blkT_norm] | rw [blkT_exit] | rw [blkT_exit' (by decide)] | rw [s_blk] | rw [s_reg (by simp [go_sem, vL]; exact ⟨rfl, rfl⟩)] | rw [t_cnd (by simp [lk, keepEnv, Od.v, vL]; exact rfl)] | rw [t_blk]))
    (try simp only [keepEnv, List.map_cons, List.map_nil, lk, reduceIte, Nat.reduceEqDiff, Nat.zero_ne_one, Nat.one_ne_zero])
    rw [hl1]
    (repeat (first | rw [s_assoc] | rw [s_seq_reg (by simp [go_sem, vL, e45]; exact ⟨rfl, rfl⟩)] | rw [s_cnd (by simp [lk, keepEnv, Od.v, vL, e45]; exact rfl)] | rw [cnd_t] | rw [cnd_f] | rw [s_skip] | rw [s_ret] | rw [s_exit] | rw [C_ret] | rw [C_exit] | rw [C_skip] | rw [blk_ret] | rw [blk_norm] | rw [blk_exit] | rw [blk_exit' (by decide)] | rw [blkT_ret] | rw [blkT_norm] | rw [blkT_exit] | rw [blkT_exit' (by decide)] | rw [s_blk] | rw [s_reg (by simp [go_sem, vL, e45]; exact ⟨rfl, rfl⟩)] | rw [t_cnd (by simp [lk, keepEnv, Od.v, vL, e45]; exact rfl)] | rw [t_blk]))
    (try simp only [keepEnv, List.map_cons, List.map_nil, lk, reduceIte, Nat.reduceEqDiff, Nat.zero_ne_one, Nat.one_ne_zero])
    rw [hc]
    (repeat (first | rw [s_assoc] | rw [s_seq_reg (by simp [go_sem]; exact ⟨rfl, rfl⟩)] | rw [s_cnd (by simp [lk, keepEnv, Od.v]; exact rfl)] | rw [cnd_t] | rw [cnd_f] | rw [s_skip] | rw [s_ret] | rw [s_exit] | rw [C_ret] | rw [C_exit] | rw [C_skip] | rw [blk_ret] | rw [blk_norm] | rw [blk_exit] | rw [blk_exit' (by decide)] | rw [blkT_ret] | rw [blkT_norm] | rw [blkT_exit] | rw [blkT_exit' (by decide)] | rw [s_blk] | rw [s_reg (by simp [go_sem]; exact ⟨rfl, rfl⟩)] | rw [t_cnd (by simp [lk, keepEnv, Od.v]; exact rfl)] | rw [t_blk]))
    simp only [ends_ret, resL, lk, keepEnv, List.map_cons, List.map_nil, reduceIte, Option.map_some, Nat.reduceEqDiff, hfin]
end Go.Proofs.YtobpbjmnonbblaaDoor
