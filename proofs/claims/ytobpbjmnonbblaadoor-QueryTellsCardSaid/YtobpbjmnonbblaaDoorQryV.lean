/- Ideal runs: the document's answer on queries (winnowerref16): Uses. -/
import Derived.Test.YtobpbjmnonbblaaDoorQryU
namespace Go.Proofs.YtobpbjmnonbblaaDoor
attribute [local go_sem] evOps evOp_n evOp_r evOp_d evOp_dr kpo_refl kpo_app cnd_some cnd_pair cnd_cnd_t cnd_cnd_f cnd_same cnd_dvb cnd_and cnd_or gd_bool gd_boolf gd_tup cnd_t cnd_f evTo isCall evx put lk Od.v keepEnv enterEnv ldx_ref rdc binx binI binS unx eqk DV.isU DV.cells hget hget0 hset hset0 stx_ref splice fillp mat eqcs eqs one_bool one_int one_str one_nilp one_ref one_elem one_nils one_list one_row one_nilm one_map one_nilf one_func one_nili one_ifc one_agg one_tup one_undef one_fresh
attribute [local go_sem ↓] evx_pick
set_option linter.unusedVariables false
set_option linter.unusedSimpArgs false
set_option maxRecDepth 10000
theorem Gro.base {T sz : Nat} {H H1 h : Heap} {d : DV} {xs : List DV} (hg : Gro T sz H1 h d xs) (hH : H1.take H.length = H) : Gro T sz H h d xs := by
  have hl := take_leG hH
  refine ⟨?_, ?_⟩
  · have h5 : h.take H.length = (h.take H1.length).take H.length := by rw [List.take_take, Nat.min_eq_left hl]
    rw [h5, hg.1, hH]
  · rcases hg.2 with h1 | ⟨g, o, h1, h2, h3⟩
    · exact .inl h1
    · exact .inr ⟨g, o, h1, by omega, h3⟩
theorem gro_con {H h : Heap} {d : DV} {l : List Int} (hg : Gro 3 1 H h d (l.map intD)) (h0 : l = [] → d = .nils) : fin H h [d] = (conD l, H) := by
  rcases hg.fin (nr_ints l) with ⟨rfl, h1⟩ | ⟨hne, h1⟩
  · rw [h1]
    rcases hg.2 with ⟨_, h2⟩ | ⟨g, o, h2, _⟩
    · have : l = [] := by simpa using h2
      rw [this]; rfl
    · cases h2
  · rw [h1]
    unfold conD
    rw [if_neg (fun h => hne (h0 h))]
def rU (q : Qry) (n : Nat) : List Int := ((List.range n).map fun k : Nat => (k : Int)).filter (namesV q)
theorem rU_succ (q : Qry) (n : Nat) : rU q (n + 1) = rU q n ++ if namesV q n = true then [(n : Int)] else [] := by
  unfold rU
  rw [List.range_succ, List.map_append, List.filter_append]
  congr 1
  by_cases h : namesV q n = true <;> simp [h]
theorem rU_le (q : Qry) (n : Nat) : (rU q n).length ≤ n := by
  unfold rU
  have := List.length_filter_le (namesV q) ((List.range n).map fun k : Nat => (k : Int))
  simpa using this
theorem loop15 {Hb : Heap} {F Cn Gr Ag So : DV} {q : Qry} {b : Nat} (hb : Hb[b]? = some (.box 30 (qryC F Cn Gr Ag So q.lim))) (hq : QV Hb F Cn Gr Ag So q) :
    ∀ (m i : Nat) (h : Heap) (o : DV), 50 - i ≤ m → i ≤ 50 → Gro 3 1 Hb h o ((rU q i).map intD) → (rU q i = [] → o = .nils) → ∃ ex h' o', C X (.loop lp15_0) [(1, .int .i64 50), (2, .ref b 0), (5, o), (6, .int .i64 i)] h = some (.exit 0, (1, .int .i64 50) :: (2, .ref b 0) :: (5, o') :: ex, h') ∧ Gro 3 1 Hb h' o' ((rU q 50).map intD) ∧ (rU q 50 = [] → o' = .nils) := by
  intro m
  induction m with
  | zero =>
    intro i h o hm hi hg h0
    obtain rfl : i = 50 := by omega
    refine ⟨[(6, .int .i64 50), (9, .bool false)], h, o, ?_, hg, h0⟩
    rw [show ((50 : Nat) : Int) = 50 from rfl]
    rw [t_loop]
    unfold lp15_0
    (repeat (first | rw [s_assoc] | rw [s_seq_reg (by simp [go_sem]; exact ⟨rfl, rfl⟩)] | rw [s_cnd (by simp [lk, keepEnv, Od.v]; exact rfl)] | rw [cnd_t] | rw [cnd_f] | rw [s_skip] | rw [s_ret] | rw [s_exit] | rw [C_ret] | rw [C_exit] | rw [C_skip] | rw [blk_ret] | rw [blk_norm] | rw [blk_exit] | rw [blk_exit' (by decide)] | rw [blkT_ret] | rw [blkT_norm] | rw [blkT_exit] | rw [blkT_exit' (by decide)] | rw [s_blk] | rw [s_reg (by simp [go_sem]; exact ⟨rfl, rfl⟩)] | rw [t_cnd (by simp [lk, keepEnv, Od.v]; exact rfl)] | rw [t_blk]))
    rw [lp_exit]
    simp [keepEnv, lk]
  | succ m ih =>
    intro i h o hm hi hg h0
    by_cases c : i < 50
    · obtain ⟨I, hI⟩ : ∃ I, I = i + 1 := ⟨_, rfl⟩
      have z1 : IntKind.i64.wrap ((i : Int) + 1) = (I : Int) := (by rw [wrap64 _ (by omega) (by omega)]; omega)
      have c' : (i : Int) < 50 := by omega
      have hb' := pre_get hg.1 hb
      have hqh : QV h F Cn Gr Ag So q := by
        have := List.take_append_drop Hb.length h
        rw [hg.1] at this
        rw [← this]
        exact hq.ext _
      have e34 := run34 hqh (i : Int)
      have htk := rU_succ q i
      rw [← hI] at htk
      have hle := rU_le q i
      cases hu : namesV q i with
      | false =>
        rw [hu] at htk e34
        simp only [Bool.false_eq_true, if_false, List.append_nil] at htk
        have hIH := ih I h o (by omega) (by omega) (by rw [htk]; exact hg) (by rw [htk]; exact h0)
        have hs : C X lp15_0 [(1, .int .i64 50), (2, .ref b 0), (5, o), (6, .int .i64 i)] h = some (.norm, [(1, .int .i64 50), (2, .ref b 0), (5, o), (6, .int .i64 I)], h) := by
          clear ih hIH hI hg hu htk hle hqh hq h0
          obtain ⟨fl, co, gr, ag, so, lim⟩ := q
          simp only [qryC] at *
          unfold lp15_0
          (repeat (first | rw [s_assoc] | rw [s_seq_reg (by simp [go_sem, c', z1, hb', e34, ldx]; exact ⟨rfl, rfl⟩)] | rw [s_cnd (by simp [lk, keepEnv, Od.v, c', z1, hb', e34, ldx]; exact rfl)] | rw [cnd_t] | rw [cnd_f] | rw [s_skip] | rw [s_ret] | rw [s_exit] | rw [C_ret] | rw [C_exit] | rw [C_skip] | rw [blk_ret] | rw [blk_norm] | rw [blk_exit] | rw [blk_exit' (by decide)] | rw [blkT_ret] | rw [blkT_norm] | rw [blkT_exit] | rw [blkT_exit' (by decide)] | rw [s_blk] | rw [s_reg (by simp [go_sem, c', z1, hb', e34, ldx]; exact ⟨rfl, rfl⟩)] | rw [t_cnd (by simp [lk, keepEnv, Od.v, c', z1, hb', e34, ldx]; exact rfl)] | rw [t_blk]))
          simp [keepEnv, lk]
        rw [t_loop, hs, lp_norm]
        exact hIH
      | true =>
        rw [hu] at htk e34
        simp only [if_true] at htk
        obtain ⟨o2, h2, ha, hg2⟩ := hg.app 8 [intD (i : Int)] (by simp only [List.length_map, List.length_cons, List.length_nil]; omega)
        have hg2 : Gro 3 1 Hb h2 o2 ((rU q I).map intD) := by
          rw [htk, List.map_append]
          exact hg2
        have hIH := ih I h2 o2 (by omega) (by omega) hg2 (by rw [htk]; intro h; simp at h)
        have hw := hg.vw
        have hs : C X lp15_0 [(1, .int .i64 50), (2, .ref b 0), (5, o), (6, .int .i64 i)] h = some (.norm, [(1, .int .i64 50), (2, .ref b 0), (5, o2), (6, .int .i64 I)], h2) := by
          have y1 : ∀ (a : Int) h, eltL [.int .i64 a] h = some ([.int .i64 a], h) := fun _ _ => rfl
          have y2 : ∀ a, Wc 1 (.int .i64 a) := fun a => by simp [Wc, DV.cells, DV.one]
          have y3 : ∀ a, Nr (.int .i64 a) := fun a => .int _ _
          have y4 : ∀ (a : Int) h, srcOf h 1 (.list 1 [.int .i64 a] true) = some [.int .i64 a] := fun _ _ => rfl
          generalize (rU q i).map intD = cur at *
          clear ih hIH hI hg hu htk hle hqh hq h0 hg2
          obtain ⟨fl, co, gr, ag, so, lim⟩ := q
          simp only [qryC, intD] at *
          unfold lp15_0
          (repeat (first | rw [s_assoc] | rw [s_seq_reg (by simp [go_sem, c', z1, hb', e34, y1, y2, y3, y4, hw, ha, ldx]; exact ⟨rfl, rfl⟩)] | rw [s_cnd (by simp [lk, keepEnv, Od.v, c', z1, hb', e34, y1, y2, y3, y4, hw, ha, ldx]; exact rfl)] | rw [cnd_t] | rw [cnd_f] | rw [s_skip] | rw [s_ret] | rw [s_exit] | rw [C_ret] | rw [C_exit] | rw [C_skip] | rw [blk_ret] | rw [blk_norm] | rw [blk_exit] | rw [blk_exit' (by decide)] | rw [blkT_ret] | rw [blkT_norm] | rw [blkT_exit] | rw [blkT_exit' (by decide)] | rw [s_blk] | rw [s_reg (by simp [go_sem, c', z1, hb', e34, y1, y2, y3, y4, hw, ha, ldx]; exact ⟨rfl, rfl⟩)] | rw [t_cnd (by simp [lk, keepEnv, Od.v, c', z1, hb', e34, y1, y2, y3, y4, hw, ha, ldx]; exact rfl)] | rw [t_blk]))
          simp [keepEnv, lk]
        rw [t_loop, hs, lp_norm]
        exact hIH
    · exact ih i h o (by omega) hi hg h0
set_option maxHeartbeats 1000000 in
theorem run15 {H : Heap} {F Cn Gr Ag So : DV} {q : Qry} (hq : QV H F Cn Gr Ag So q) : E X 15 [.agg (qryC F Cn Gr Ag So q.lim), .int .i64 50] H = some (conD (rU q 50), H) := by
  obtain ⟨H1, hH1⟩ : ∃ H1, H1 = H ++ [HO.box 30 (qryC F Cn Gr Ag So q.lim)] := ⟨_, rfl⟩
  have hq1 : QV H1 F Cn Gr Ag So q := by rw [hH1]; exact hq.ext _
  have hb1 : H1[H.length]? = some (.box 30 (qryC F Cn Gr Ag So q.lim)) := by rw [hH1]; simp
  have ht1 : H1.take H.length = H := by rw [hH1, List.take_append_of_le_length (Nat.le_refl _)]; exact List.take_length
  obtain ⟨ex, h2, o2, hc, g2, n2⟩ := loop15 hb1 hq1 50 0 H1 .nils (by omega) (by omega) Gro.zero (fun _ => rfl)
  rw [show ((0 : Nat) : Int) = 0 from rfl] at hc
  have hfin := gro_con (g2.base ht1) n2
  generalize conD (rU q 50) = R at *
  clear hq hq1 hb1 ht1 g2 n2
  obtain ⟨fl, co, gr, ag, so, lim⟩ := q
  subst hH1
  simp only [qryC] at *
  rw [E_go (X := X) _ b15 _ rfl rfl]; unfold b15
  (repeat (first | rw [s_assoc] | rw [s_seq_reg (by simp [go_sem]; exact ⟨rfl, rfl⟩)] | rw [s_cnd (by simp [lk, keepEnv, Od.v]; exact rfl)] | rw [cnd_t] | rw [cnd_f] | rw [s_skip] | rw [s_ret] | rw [s_exit] | rw [C_ret] | rw [C_exit] | rw [C_skip] | rw [blk_ret] | rw [blk_norm] | rw [blk_exit] | rw [blk_exit' (by decide)] | rw [blkT_ret] | rw [blkT_norm] | rw [blkT_exit] | rw [blkT_exit' (by decide)] | rw [s_blk] | rw [s_reg (by simp [go_sem]; exact ⟨rfl, rfl⟩)] | rw [t_cnd (by simp [lk, keepEnv, Od.v]; exact rfl)] | rw [t_blk]))
  (try simp only [keepEnv, List.map_cons, List.map_nil, lk, reduceIte, Nat.reduceEqDiff, Nat.zero_ne_one, Nat.one_ne_zero])
  rw [hc]
  (repeat (first | rw [s_assoc] | rw [s_seq_reg (by simp [go_sem]; exact ⟨rfl, rfl⟩)] | rw [s_cnd (by simp [lk, keepEnv, Od.v]; exact rfl)] | rw [cnd_t] | rw [cnd_f] | rw [s_skip] | rw [s_ret] | rw [s_exit] | rw [C_ret] | rw [C_exit] | rw [C_skip] | rw [blk_ret] | rw [blk_norm] | rw [blk_exit] | rw [blk_exit' (by decide)] | rw [blkT_ret] | rw [blkT_norm] | rw [blkT_exit] | rw [blkT_exit' (by decide)] | rw [s_blk] | rw [s_reg (by simp [go_sem]; exact ⟨rfl, rfl⟩)] | rw [t_cnd (by simp [lk, keepEnv, Od.v]; exact rfl)] | rw [t_blk]))
  rw [ends_ret]
  simp [resL, lk, keepEnv, hfin]
end Go.Proofs.YtobpbjmnonbblaaDoor
