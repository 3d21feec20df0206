/- Ideal run: QueryTells. -/
import Derived.Test.YtobpbjmnonbblaaDoorQryW
import Derived.Test.YtobpbjmnonbblaaDoorQryP
namespace Go.Proofs.YtobpbjmnonbblaaDoor
attribute [local go_sem] evOps evOp_n evOp_r evOp_d evOp_dr kpo_refl kpo_app cnd_some cnd_pair cnd_cnd_t cnd_cnd_f cnd_same cnd_dvb cnd_and cnd_or gd_bool gd_boolf gd_tup cnd_t cnd_f evTo isCall evx put lk Od.v keepEnv enterEnv ldx_ref rdc binx binI binS unx eqk DV.isU DV.cells hget hget0 hset hset0 stx_ref splice fillp mat eqcs eqs one_bool one_int one_str one_nilp one_ref one_elem one_nils one_list one_row one_nilm one_map one_nilf one_func one_nili one_ifc one_agg one_tup one_undef one_fresh
attribute [local go_sem ↓] evx_pick
set_option linter.unusedVariables false
set_option linter.unusedSimpArgs false
set_option maxRecDepth 10000
theorem sorted_ext : ∀ {l m : List Int}, l.Pairwise (· < ·) → m.Pairwise (· < ·) → (∀ z, z ∈ l ↔ z ∈ m) → l = m
  | [], [], _, _, _ => rfl
  | [], y :: m, _, _, h => by have := (h y).2 (List.mem_cons_self ..); cases this
  | x :: l, [], _, _, h => by have := (h x).1 (List.mem_cons_self ..); cases this
  | x :: l, y :: m, h1, h2, h => by
    obtain ⟨a1, a2⟩ := List.pairwise_cons.1 h1
    obtain ⟨b1, b2⟩ := List.pairwise_cons.1 h2
    have e : x = y := by
      rcases List.mem_cons.1 ((h x).1 (List.mem_cons_self ..)) with h3 | h3
      · exact h3
      · rcases List.mem_cons.1 ((h y).2 (List.mem_cons_self ..)) with h4 | h4
        · exact h4.symm
        · have := a1 y h4
          have := b1 x h3
          omega
    subst e
    congr 1
    refine sorted_ext a2 b2 fun z => ⟨fun hz => ?_, fun hz => ?_⟩
    · rcases List.mem_cons.1 ((h z).1 (List.mem_cons_of_mem _ hz)) with h3 | h3
      · have := a1 z hz; omega
      · exact h3
    · rcases List.mem_cons.1 ((h z).2 (List.mem_cons_of_mem _ hz)) with h3 | h3
      · have := b1 z hz; omega
      · exact h3
theorem usedN_eq (x : N) : usedN x = (decide (1 ≤ x.ask) && decide (x.ask ≤ 7)) := by
  unfold usedN needsV
  by_cases c0 : x.ask = 0
  · simp [c0]
  by_cases c1 : 1 ≤ x.ask ∧ x.ask ≤ 6
  · have : x.ask ≤ 7 := by omega
    simp [c0, c1, this]
  by_cases c7 : x.ask = 7
  · simp [c7]
  have : ¬ (1 ≤ x.ask ∧ x.ask ≤ 7) := by omega
  rw [← Bool.decide_and, decide_eq_false this]
  by_cases c8 : x.ask = 8 ∨ x.ask = 9
  · simp [c0, c1, c7, c8]
  by_cases c10 : x.ask = 10
  · simp [c10]
  · simp [c0, c1, c7, c8, c10]
theorem namesV_iff (q : Qry) (k : Int) : namesV q k = true ↔ k ∈ usesL q := by
  unfold namesV usesL
  simp only [Bool.or_eq_true, List.any_eq_true, List.mem_append, List.mem_map, List.mem_filter, ← usedN_eq, Bool.and_eq_true, beq_iff_eq]
  constructor
  · rintro ((⟨x, h1, h2, h3⟩ | ⟨x, h1, h2⟩) | (⟨x, h1, h2⟩ | ⟨x, h1, h2⟩))
    · exact .inl (.inr ⟨x, ⟨h1, h2⟩, h3⟩)
    · exact .inl (.inl (.inl (h2 ▸ h1)))
    · exact .inl (.inl (.inr (h2 ▸ h1)))
    · exact .inr ⟨x, h1, h2⟩
  · rintro (((h | h) | ⟨x, ⟨h1, h2⟩, h3⟩) | ⟨x, h1, h2⟩)
    · exact .inl (.inr ⟨k, h, rfl⟩)
    · exact .inr (.inl ⟨k, h, rfl⟩)
    · exact .inl (.inl ⟨x, h1, h2, h3⟩)
    · exact .inr (.inr ⟨x, h1, h2⟩)
theorem uses_rU {q : Qry} (h : SmallQ q) : usesV q = rU q 50 := by
  refine sorted_ext (usesV_lt q) ?_ fun z => ?_
  · unfold rU
    refine List.Pairwise.filter _ ?_
    rw [List.pairwise_map]
    exact (List.pairwise_lt_range).imp fun h => by omega
  · rw [usesV_mem]
    unfold rU
    rw [List.mem_filter, List.mem_map, namesV_iff]
    constructor
    · rintro ⟨h1, h2⟩
      refine ⟨⟨z.toNat, ?_, by omega⟩, h1⟩
      rw [List.mem_range]
      obtain ⟨s1, s2, s3, s4⟩ := h
      have : z < 50 := by
        unfold usesL at h1
        simp only [List.mem_append, List.mem_map, List.mem_filter] at h1
        rcases h1 with ((h1 | h1) | ⟨x, ⟨h1, _⟩, rfl⟩) | ⟨x, h1, rfl⟩
        · exact s2 z h1
        · exact s3 z h1
        · exact s1 x h1
        · exact s4 x h1
      omega
    · rintro ⟨⟨n, hn, rfl⟩, h2⟩
      exact ⟨h2, by omega⟩
set_option maxHeartbeats 8000000 in
theorem run5 {Cd F Cn Gr Ag So : DV} {s : Sch} {q : Qry} (hA : Args Cd F Cn Gr Ag So s q) : E X 5 [schD Cd s, .agg (qryC F Cn Gr Ag So q.lim)] [] = some (.bool true, []) := by
  have hC := hA.C
  have e7 := run7
  obtain ⟨b8, e8, hb8⟩ := run8 hC [.box 24 (schC Cd s), .box 30 (qryC F Cn Gr Ag So q.lim)]
  obtain ⟨b9, e9, hb9⟩ := run9s (H := [.box 24 (schC Cd s), .box 30 (qryC F Cn Gr Ag So q.lim)]) (fun G => hA.f _) hA.c hA.g hA.a hA.s
  have early : ∀ (hk : b8 = false ∨ (b8 = true ∧ b9 = false)), E X 5 [schD Cd s, .agg (qryC F Cn Gr Ag So q.lim)] [] = some (.bool true, []) := by
    intro hk
    clear hA hC hb8 hb9
    obtain ⟨cols, k1, k2, k3, k4⟩ := s
    obtain ⟨fl, co, gr, ag, so, lim⟩ := q
    simp only [schD, schC, qryC] at *
    rcases hk with rfl | ⟨rfl, rfl⟩
    · rw [E_go (X := X) _ b5 _ rfl rfl]; unfold b5; (repeat (first | rw [s_assoc] | rw [s_seq_reg (by simp [go_sem, e7, e8, e9]; exact ⟨rfl, rfl⟩)] | rw [s_cnd (by simp [lk, keepEnv, Od.v, e7, e8, e9]; exact rfl)] | rw [cnd_t] | rw [cnd_f] | rw [s_skip] | rw [s_ret] | rw [s_exit] | rw [C_ret] | rw [C_exit] | rw [C_skip] | rw [blk_ret] | rw [blk_norm] | rw [blk_exit] | rw [blk_exit' (by decide)] | rw [blkT_ret] | rw [blkT_norm] | rw [blkT_exit] | rw [blkT_exit' (by decide)] | rw [s_blk] | rw [s_reg (by simp [go_sem, e7, e8, e9]; exact ⟨rfl, rfl⟩)] | rw [t_cnd (by simp [lk, keepEnv, Od.v, e7, e8, e9]; exact rfl)] | rw [t_blk])); simp [ends_ret, ends_norm, resL, go_sem, fin, fz0, fz1, fzT, fzL, nlt, e7, e8, e9]
    · rw [E_go (X := X) _ b5 _ rfl rfl]; unfold b5; (repeat (first | rw [s_assoc] | rw [s_seq_reg (by simp [go_sem, e7, e8, e9]; exact ⟨rfl, rfl⟩)] | rw [s_cnd (by simp [lk, keepEnv, Od.v, e7, e8, e9]; exact rfl)] | rw [cnd_t] | rw [cnd_f] | rw [s_skip] | rw [s_ret] | rw [s_exit] | rw [C_ret] | rw [C_exit] | rw [C_skip] | rw [blk_ret] | rw [blk_norm] | rw [blk_exit] | rw [blk_exit' (by decide)] | rw [blkT_ret] | rw [blkT_norm] | rw [blkT_exit] | rw [blkT_exit' (by decide)] | rw [s_blk] | rw [s_reg (by simp [go_sem, e7, e8, e9]; exact ⟨rfl, rfl⟩)] | rw [t_cnd (by simp [lk, keepEnv, Od.v, e7, e8, e9]; exact rfl)] | rw [t_blk])); simp [ends_ret, ends_norm, resL, go_sem, fin, fz0, fz1, fzT, fzL, nlt, e7, e8, e9]
  cases b8
  · exact early (.inl rfl)
  cases b9
  · exact early (.inr ⟨rfl, rfl⟩)
  clear early
  obtain ⟨hq0, hsm⟩ := hb9 rfl
  have hl := hb8 rfl
  clear hb8 hb9
  have hq : ∀ g, QV g F Cn Gr Ag So q := fun g => { hq0 with f := fun G => hA.f _ }
  have e10 := fun g => run10 hC (by omega) (hq g)
  have e16 := fun g => run16 hC (by omega) (hq g)
  have e11 := fun g => run11 hC (by omega) (hq g)
  have e13 := fun g => run13 hC (by omega) (hq g)
  have e15 := fun g => run15 (hq g)
  have eU := fun g => run14 (hq g)
  rw [← uses_rU hsm] at e15
  have hul : (usesV q).length ≤ 1000 := by
    rw [uses_rU hsm]
    have := rU_le q 50
    omega
  have hol : (outsV s q).length ≤ 10000 := by
    have := hq0.nc; have := hq0.ng; have := hq0.na
    unfold outsV
    split
    · simp
    · simp only [List.length_append, List.length_map]; omega
  have i0 : ∀ h, E X 12 [.nils, .nils] h = some (.bool true, h) := fun h => by
    have := run12 (h := h) (A := .nils) (B := .nils) (xs := []) (ys := []) rfl rfl (by simp)
    simpa using this
  have i2 : ∀ (A B : DV) (l : List Int) (h : Heap), vw h 1 A = some (l.map intD) → vw h 1 B = some (l.map intD) → l.length ≤ 10000 → E X 12 [A, B] h = some (.bool true, h) := fun A B l h h1 h2 h3 => by
    have := run12 (h := h) (A := A) (B := B) (xs := l) (ys := l) h1 h2 (by omega)
    simpa using this
  have rv : ∀ (h : Heap) (l : List Int) (j : Nat), h[j]? = some (HO.row 3 1 0 (l.map intD)) → vw h 1 (.row j 0 0 (l.map intD).length false) = some (l.map intD) := by
    intro h l j hj
    simp [vw, hj, List.take_of_length_le]
  have kpa : ∀ (h G : Heap) (d : DV), kpo true h (d, h ++ G) = some (d, h ++ G) := fun h G d => by
    unfold kpo
    rw [if_pos ⟨rfl, List.take_left' rfl⟩]
  generalize checkV s q = cv at *
  generalize outsV s q = ol at *
  generalize usesV q = ul at *
  by_cases g0 : ol = []
  · subst g0
    rw [show conD [] = .nils from rfl] at e11 e13
    have k1' := i0 [.box 24 (schC Cd s), .box 30 (qryC F Cn Gr Ag So q.lim)]
    obtain ⟨d, eu, hd⟩ := eU [.box 24 (schC Cd s), .box 30 (qryC F Cn Gr Ag So q.lim)]
    by_cases h0 : ul = []
    · subst h0
      rw [show conD [] = .nils from rfl] at e15
      rcases hd with ⟨rfl, _⟩ | rfl | rfl
      · have k2' := i0 [.box 24 (schC Cd s), .box 30 (qryC F Cn Gr Ag So q.lim)]
        clear hA hC hq hl hq0 hsm kpa i2 i0 rv hul hol eU
        obtain ⟨cols, k1, k2, k3, k4⟩ := s
        obtain ⟨fl, co, gr, ag, so, lim⟩ := q
        simp only [schD, schC, qryC] at *
        rw [E_go (X := X) _ b5 _ rfl rfl]; unfold b5; (repeat (first | rw [s_assoc] | rw [s_seq_reg (by simp [go_sem, e7, e8, e9, e10, e16, e11, e13, k1', eu, e15, k2']; exact ⟨rfl, rfl⟩)] | rw [s_cnd (by simp [lk, keepEnv, Od.v, e7, e8, e9, e10, e16, e11, e13, k1', eu, e15, k2']; exact rfl)] | rw [cnd_t] | rw [cnd_f] | rw [s_skip] | rw [s_ret] | rw [s_exit] | rw [C_ret] | rw [C_exit] | rw [C_skip] | rw [blk_ret] | rw [blk_norm] | rw [blk_exit] | rw [blk_exit' (by decide)] | rw [blkT_ret] | rw [blkT_norm] | rw [blkT_exit] | rw [blkT_exit' (by decide)] | rw [s_blk] | rw [s_reg (by simp [go_sem, e7, e8, e9, e10, e16, e11, e13, k1', eu, e15, k2']; exact ⟨rfl, rfl⟩)] | rw [t_cnd (by simp [lk, keepEnv, Od.v, e7, e8, e9, e10, e16, e11, e13, k1', eu, e15, k2']; exact rfl)] | rw [t_blk])); simp [ends_ret, ends_norm, resL, go_sem, fin, fz0, fz1, fzT, fzL, nlt, e7, e8, e9, e10, e16, e11, e13, k1', eu, e15, k2']
      · have k2' := i2 (.row 2 0 0 0 false) .nils [] ([.box 24 (schC Cd s), .box 30 (qryC F Cn Gr Ag So q.lim)] ++ [.row 3 1 0 (([] : List Int).map intD)]) (rv _ [] 2 rfl) rfl (by simp)
        have t2 := kpa [.box 24 (schC Cd s), .box 30 (qryC F Cn Gr Ag So q.lim)] [.row 3 1 0 (([] : List Int).map intD)] (.row 2 0 0 0 false)
        simp only [List.map_nil, List.cons_append, List.nil_append, List.length_nil] at *
        clear hA hC hq hl hq0 hsm kpa i2 i0 rv hul hol eU
        obtain ⟨cols, k1, k2, k3, k4⟩ := s
        obtain ⟨fl, co, gr, ag, so, lim⟩ := q
        simp only [schD, schC, qryC] at *
        rw [E_go (X := X) _ b5 _ rfl rfl]; unfold b5; (repeat (first | rw [s_assoc] | rw [s_seq_reg (by simp [go_sem, e7, e8, e9, e10, e16, e11, e13, k1', eu, e15, k2', t2]; exact ⟨rfl, rfl⟩)] | rw [s_cnd (by simp [lk, keepEnv, Od.v, e7, e8, e9, e10, e16, e11, e13, k1', eu, e15, k2', t2]; exact rfl)] | rw [cnd_t] | rw [cnd_f] | rw [s_skip] | rw [s_ret] | rw [s_exit] | rw [C_ret] | rw [C_exit] | rw [C_skip] | rw [blk_ret] | rw [blk_norm] | rw [blk_exit] | rw [blk_exit' (by decide)] | rw [blkT_ret] | rw [blkT_norm] | rw [blkT_exit] | rw [blkT_exit' (by decide)] | rw [s_blk] | rw [s_reg (by simp [go_sem, e7, e8, e9, e10, e16, e11, e13, k1', eu, e15, k2', t2]; exact ⟨rfl, rfl⟩)] | rw [t_cnd (by simp [lk, keepEnv, Od.v, e7, e8, e9, e10, e16, e11, e13, k1', eu, e15, k2', t2]; exact rfl)] | rw [t_blk])); simp [ends_ret, ends_norm, resL, go_sem, fin, fz0, fz1, fzT, fzL, nlt, e7, e8, e9, e10, e16, e11, e13, k1', eu, e15, k2', t2]
      · have k2' := i2 (.list 1 [] false) .nils [] [.box 24 (schC Cd s), .box 30 (qryC F Cn Gr Ag So q.lim)] rfl rfl (by simp)
        simp only [List.map_nil] at *
        clear hA hC hq hl hq0 hsm kpa i2 i0 rv hul hol eU
        obtain ⟨cols, k1, k2, k3, k4⟩ := s
        obtain ⟨fl, co, gr, ag, so, lim⟩ := q
        simp only [schD, schC, qryC] at *
        rw [E_go (X := X) _ b5 _ rfl rfl]; unfold b5; (repeat (first | rw [s_assoc] | rw [s_seq_reg (by simp [go_sem, e7, e8, e9, e10, e16, e11, e13, k1', eu, e15, k2']; exact ⟨rfl, rfl⟩)] | rw [s_cnd (by simp [lk, keepEnv, Od.v, e7, e8, e9, e10, e16, e11, e13, k1', eu, e15, k2']; exact rfl)] | rw [cnd_t] | rw [cnd_f] | rw [s_skip] | rw [s_ret] | rw [s_exit] | rw [C_ret] | rw [C_exit] | rw [C_skip] | rw [blk_ret] | rw [blk_norm] | rw [blk_exit] | rw [blk_exit' (by decide)] | rw [blkT_ret] | rw [blkT_norm] | rw [blkT_exit] | rw [blkT_exit' (by decide)] | rw [s_blk] | rw [s_reg (by simp [go_sem, e7, e8, e9, e10, e16, e11, e13, k1', eu, e15, k2']; exact ⟨rfl, rfl⟩)] | rw [t_cnd (by simp [lk, keepEnv, Od.v, e7, e8, e9, e10, e16, e11, e13, k1', eu, e15, k2']; exact rfl)] | rw [t_blk])); simp [ends_ret, ends_norm, resL, go_sem, fin, fz0, fz1, fzT, fzL, nlt, e7, e8, e9, e10, e16, e11, e13, k1', eu, e15, k2']
    have hcu : conD ul = .fresh 3 1 (ul.map intD) := by unfold conD; rw [if_neg h0]
    rw [hcu] at e15
    rcases hd with ⟨_, h1⟩ | rfl | rfl
    · exact absurd h1 h0
    · have k2' := i2 (.row 2 0 0 (ul.map intD).length false) (.row 3 0 0 (ul.map intD).length false) ul ([.box 24 (schC Cd s), .box 30 (qryC F Cn Gr Ag So q.lim)] ++ [.row 3 1 0 (ul.map intD), .row 3 1 0 (ul.map intD)]) (rv _ ul 2 rfl) (rv _ ul 3 rfl) (by omega)
      have t2 := kpa [.box 24 (schC Cd s), .box 30 (qryC F Cn Gr Ag So q.lim)] [.row 3 1 0 (ul.map intD)] (.row 2 0 0 (ul.map intD).length false)
      generalize ul.map intD = U at *
      simp only [List.cons_append, List.nil_append] at *
      clear hA hC hq hl hq0 hsm kpa i2 i0 rv hul hol eU
      obtain ⟨cols, k1, k2, k3, k4⟩ := s
      obtain ⟨fl, co, gr, ag, so, lim⟩ := q
      simp only [schD, schC, qryC] at *
      rw [E_go (X := X) _ b5 _ rfl rfl]; unfold b5; (repeat (first | rw [s_assoc] | rw [s_seq_reg (by simp [go_sem, e7, e8, e9, e10, e16, e11, e13, k1', eu, e15, k2', t2]; exact ⟨rfl, rfl⟩)] | rw [s_cnd (by simp [lk, keepEnv, Od.v, e7, e8, e9, e10, e16, e11, e13, k1', eu, e15, k2', t2]; exact rfl)] | rw [cnd_t] | rw [cnd_f] | rw [s_skip] | rw [s_ret] | rw [s_exit] | rw [C_ret] | rw [C_exit] | rw [C_skip] | rw [blk_ret] | rw [blk_norm] | rw [blk_exit] | rw [blk_exit' (by decide)] | rw [blkT_ret] | rw [blkT_norm] | rw [blkT_exit] | rw [blkT_exit' (by decide)] | rw [s_blk] | rw [s_reg (by simp [go_sem, e7, e8, e9, e10, e16, e11, e13, k1', eu, e15, k2', t2]; exact ⟨rfl, rfl⟩)] | rw [t_cnd (by simp [lk, keepEnv, Od.v, e7, e8, e9, e10, e16, e11, e13, k1', eu, e15, k2', t2]; exact rfl)] | rw [t_blk])); simp [ends_ret, ends_norm, resL, go_sem, fin, fz0, fz1, fzT, fzL, nlt, e7, e8, e9, e10, e16, e11, e13, k1', eu, e15, k2', t2]
    · have k2' := i2 (.list 1 (ul.map intD) false) (.row 2 0 0 (ul.map intD).length false) ul ([.box 24 (schC Cd s), .box 30 (qryC F Cn Gr Ag So q.lim)] ++ [.row 3 1 0 (ul.map intD)]) rfl (rv _ ul 2 rfl) (by omega)
      generalize ul.map intD = U at *
      simp only [List.cons_append, List.nil_append] at *
      clear hA hC hq hl hq0 hsm kpa i2 i0 rv hul hol eU
      obtain ⟨cols, k1, k2, k3, k4⟩ := s
      obtain ⟨fl, co, gr, ag, so, lim⟩ := q
      simp only [schD, schC, qryC] at *
      rw [E_go (X := X) _ b5 _ rfl rfl]; unfold b5; (repeat (first | rw [s_assoc] | rw [s_seq_reg (by simp [go_sem, e7, e8, e9, e10, e16, e11, e13, k1', eu, e15, k2']; exact ⟨rfl, rfl⟩)] | rw [s_cnd (by simp [lk, keepEnv, Od.v, e7, e8, e9, e10, e16, e11, e13, k1', eu, e15, k2']; exact rfl)] | rw [cnd_t] | rw [cnd_f] | rw [s_skip] | rw [s_ret] | rw [s_exit] | rw [C_ret] | rw [C_exit] | rw [C_skip] | rw [blk_ret] | rw [blk_norm] | rw [blk_exit] | rw [blk_exit' (by decide)] | rw [blkT_ret] | rw [blkT_norm] | rw [blkT_exit] | rw [blkT_exit' (by decide)] | rw [s_blk] | rw [s_reg (by simp [go_sem, e7, e8, e9, e10, e16, e11, e13, k1', eu, e15, k2']; exact ⟨rfl, rfl⟩)] | rw [t_cnd (by simp [lk, keepEnv, Od.v, e7, e8, e9, e10, e16, e11, e13, k1', eu, e15, k2']; exact rfl)] | rw [t_blk])); simp [ends_ret, ends_norm, resL, go_sem, fin, fz0, fz1, fzT, fzL, nlt, e7, e8, e9, e10, e16, e11, e13, k1', eu, e15, k2']
  · have hco : conD ol = .fresh 3 1 (ol.map intD) := by unfold conD; rw [if_neg g0]
    rw [hco] at e11 e13
    have k1' := i2 (.row 2 0 0 (ol.map intD).length false) (.row 3 0 0 (ol.map intD).length false) ol [.box 24 (schC Cd s), .box 30 (qryC F Cn Gr Ag So q.lim), .row 3 1 0 (ol.map intD), .row 3 1 0 (ol.map intD)] (rv _ ol 2 rfl) (rv _ ol 3 rfl) hol
    have t1 := kpa [.box 24 (schC Cd s), .box 30 (qryC F Cn Gr Ag So q.lim)] [.row 3 1 0 (ol.map intD)] (.row 2 0 0 (ol.map intD).length false)
    simp only [List.cons_append, List.nil_append] at t1
    clear hol hco g0
    obtain ⟨OO, hOO⟩ : ∃ OO, OO = ol.map intD := ⟨_, rfl⟩
    rw [← hOO] at e11 e13 k1' t1
    clear hOO
    have hol := hul
    obtain ⟨d, eu, hd⟩ := eU [.box 24 (schC Cd s), .box 30 (qryC F Cn Gr Ag So q.lim), .row 3 1 0 OO, .row 3 1 0 OO]
    by_cases h0 : ul = []
    · subst h0
      rw [show conD [] = .nils from rfl] at e15
      rcases hd with ⟨rfl, _⟩ | rfl | rfl
      · have k2' := i0 [.box 24 (schC Cd s), .box 30 (qryC F Cn Gr Ag So q.lim), .row 3 1 0 OO, .row 3 1 0 OO]
        clear hA hC hq hl hq0 hsm kpa i2 i0 rv hul hol eU
        obtain ⟨cols, k1, k2, k3, k4⟩ := s
        obtain ⟨fl, co, gr, ag, so, lim⟩ := q
        simp only [schD, schC, qryC] at *
        rw [E_go (X := X) _ b5 _ rfl rfl]; unfold b5; (repeat (first | rw [s_assoc] | rw [s_seq_reg (by simp [go_sem, e7, e8, e9, e10, e16, e11, e13, k1', t1, eu, e15, k2']; exact ⟨rfl, rfl⟩)] | rw [s_cnd (by simp [lk, keepEnv, Od.v, e7, e8, e9, e10, e16, e11, e13, k1', t1, eu, e15, k2']; exact rfl)] | rw [cnd_t] | rw [cnd_f] | rw [s_skip] | rw [s_ret] | rw [s_exit] | rw [C_ret] | rw [C_exit] | rw [C_skip] | rw [blk_ret] | rw [blk_norm] | rw [blk_exit] | rw [blk_exit' (by decide)] | rw [blkT_ret] | rw [blkT_norm] | rw [blkT_exit] | rw [blkT_exit' (by decide)] | rw [s_blk] | rw [s_reg (by simp [go_sem, e7, e8, e9, e10, e16, e11, e13, k1', t1, eu, e15, k2']; exact ⟨rfl, rfl⟩)] | rw [t_cnd (by simp [lk, keepEnv, Od.v, e7, e8, e9, e10, e16, e11, e13, k1', t1, eu, e15, k2']; exact rfl)] | rw [t_blk])); simp [ends_ret, ends_norm, resL, go_sem, fin, fz0, fz1, fzT, fzL, nlt, e7, e8, e9, e10, e16, e11, e13, k1', t1, eu, e15, k2']
      · have k2' := i2 (.row 4 0 0 0 false) .nils [] ([.box 24 (schC Cd s), .box 30 (qryC F Cn Gr Ag So q.lim), .row 3 1 0 OO, .row 3 1 0 OO] ++ [.row 3 1 0 (([] : List Int).map intD)]) (rv _ [] 4 rfl) rfl (by simp)
        have t2 := kpa [.box 24 (schC Cd s), .box 30 (qryC F Cn Gr Ag So q.lim), .row 3 1 0 OO, .row 3 1 0 OO] [.row 3 1 0 (([] : List Int).map intD)] (.row 4 0 0 0 false)
        simp only [List.map_nil, List.cons_append, List.nil_append, List.length_nil] at *
        clear hA hC hq hl hq0 hsm kpa i2 i0 rv hul hol eU
        obtain ⟨cols, k1, k2, k3, k4⟩ := s
        obtain ⟨fl, co, gr, ag, so, lim⟩ := q
        simp only [schD, schC, qryC] at *
        rw [E_go (X := X) _ b5 _ rfl rfl]; unfold b5; (repeat (first | rw [s_assoc] | rw [s_seq_reg (by simp [go_sem, e7, e8, e9, e10, e16, e11, e13, k1', t1, eu, e15, k2', t2]; exact ⟨rfl, rfl⟩)] | rw [s_cnd (by simp [lk, keepEnv, Od.v, e7, e8, e9, e10, e16, e11, e13, k1', t1, eu, e15, k2', t2]; exact rfl)] | rw [cnd_t] | rw [cnd_f] | rw [s_skip] | rw [s_ret] | rw [s_exit] | rw [C_ret] | rw [C_exit] | rw [C_skip] | rw [blk_ret] | rw [blk_norm] | rw [blk_exit] | rw [blk_exit' (by decide)] | rw [blkT_ret] | rw [blkT_norm] | rw [blkT_exit] | rw [blkT_exit' (by decide)] | rw [s_blk] | rw [s_reg (by simp [go_sem, e7, e8, e9, e10, e16, e11, e13, k1', t1, eu, e15, k2', t2]; exact ⟨rfl, rfl⟩)] | rw [t_cnd (by simp [lk, keepEnv, Od.v, e7, e8, e9, e10, e16, e11, e13, k1', t1, eu, e15, k2', t2]; exact rfl)] | rw [t_blk])); simp [ends_ret, ends_norm, resL, go_sem, fin, fz0, fz1, fzT, fzL, nlt, e7, e8, e9, e10, e16, e11, e13, k1', t1, eu, e15, k2', t2]
      · have k2' := i2 (.list 1 [] false) .nils [] [.box 24 (schC Cd s), .box 30 (qryC F Cn Gr Ag So q.lim), .row 3 1 0 OO, .row 3 1 0 OO] rfl rfl (by simp)
        simp only [List.map_nil] at *
        clear hA hC hq hl hq0 hsm kpa i2 i0 rv hul hol eU
        obtain ⟨cols, k1, k2, k3, k4⟩ := s
        obtain ⟨fl, co, gr, ag, so, lim⟩ := q
        simp only [schD, schC, qryC] at *
        rw [E_go (X := X) _ b5 _ rfl rfl]; unfold b5; (repeat (first | rw [s_assoc] | rw [s_seq_reg (by simp [go_sem, e7, e8, e9, e10, e16, e11, e13, k1', t1, eu, e15, k2']; exact ⟨rfl, rfl⟩)] | rw [s_cnd (by simp [lk, keepEnv, Od.v, e7, e8, e9, e10, e16, e11, e13, k1', t1, eu, e15, k2']; exact rfl)] | rw [cnd_t] | rw [cnd_f] | rw [s_skip] | rw [s_ret] | rw [s_exit] | rw [C_ret] | rw [C_exit] | rw [C_skip] | rw [blk_ret] | rw [blk_norm] | rw [blk_exit] | rw [blk_exit' (by decide)] | rw [blkT_ret] | rw [blkT_norm] | rw [blkT_exit] | rw [blkT_exit' (by decide)] | rw [s_blk] | rw [s_reg (by simp [go_sem, e7, e8, e9, e10, e16, e11, e13, k1', t1, eu, e15, k2']; exact ⟨rfl, rfl⟩)] | rw [t_cnd (by simp [lk, keepEnv, Od.v, e7, e8, e9, e10, e16, e11, e13, k1', t1, eu, e15, k2']; exact rfl)] | rw [t_blk])); simp [ends_ret, ends_norm, resL, go_sem, fin, fz0, fz1, fzT, fzL, nlt, e7, e8, e9, e10, e16, e11, e13, k1', t1, eu, e15, k2']
    have hcu : conD ul = .fresh 3 1 (ul.map intD) := by unfold conD; rw [if_neg h0]
    rw [hcu] at e15
    rcases hd with ⟨_, h1⟩ | rfl | rfl
    · exact absurd h1 h0
    · have k2' := i2 (.row 4 0 0 (ul.map intD).length false) (.row 5 0 0 (ul.map intD).length false) ul ([.box 24 (schC Cd s), .box 30 (qryC F Cn Gr Ag So q.lim), .row 3 1 0 OO, .row 3 1 0 OO] ++ [.row 3 1 0 (ul.map intD), .row 3 1 0 (ul.map intD)]) (rv _ ul 4 rfl) (rv _ ul 5 rfl) (by omega)
      have t2 := kpa [.box 24 (schC Cd s), .box 30 (qryC F Cn Gr Ag So q.lim), .row 3 1 0 OO, .row 3 1 0 OO] [.row 3 1 0 (ul.map intD)] (.row 4 0 0 (ul.map intD).length false)
      generalize ul.map intD = U at *
      simp only [List.cons_append, List.nil_append] at *
      clear hA hC hq hl hq0 hsm kpa i2 i0 rv hul hol eU
      obtain ⟨cols, k1, k2, k3, k4⟩ := s
      obtain ⟨fl, co, gr, ag, so, lim⟩ := q
      simp only [schD, schC, qryC] at *
      rw [E_go (X := X) _ b5 _ rfl rfl]; unfold b5; (repeat (first | rw [s_assoc] | rw [s_seq_reg (by simp [go_sem, e7, e8, e9, e10, e16, e11, e13, k1', t1, eu, e15, k2', t2]; exact ⟨rfl, rfl⟩)] | rw [s_cnd (by simp [lk, keepEnv, Od.v, e7, e8, e9, e10, e16, e11, e13, k1', t1, eu, e15, k2', t2]; exact rfl)] | rw [cnd_t] | rw [cnd_f] | rw [s_skip] | rw [s_ret] | rw [s_exit] | rw [C_ret] | rw [C_exit] | rw [C_skip] | rw [blk_ret] | rw [blk_norm] | rw [blk_exit] | rw [blk_exit' (by decide)] | rw [blkT_ret] | rw [blkT_norm] | rw [blkT_exit] | rw [blkT_exit' (by decide)] | rw [s_blk] | rw [s_reg (by simp [go_sem, e7, e8, e9, e10, e16, e11, e13, k1', t1, eu, e15, k2', t2]; exact ⟨rfl, rfl⟩)] | rw [t_cnd (by simp [lk, keepEnv, Od.v, e7, e8, e9, e10, e16, e11, e13, k1', t1, eu, e15, k2', t2]; exact rfl)] | rw [t_blk])); simp [ends_ret, ends_norm, resL, go_sem, fin, fz0, fz1, fzT, fzL, nlt, e7, e8, e9, e10, e16, e11, e13, k1', t1, eu, e15, k2', t2]
    · have k2' := i2 (.list 1 (ul.map intD) false) (.row 4 0 0 (ul.map intD).length false) ul ([.box 24 (schC Cd s), .box 30 (qryC F Cn Gr Ag So q.lim), .row 3 1 0 OO, .row 3 1 0 OO] ++ [.row 3 1 0 (ul.map intD)]) rfl (rv _ ul 4 rfl) (by omega)
      generalize ul.map intD = U at *
      simp only [List.cons_append, List.nil_append] at *
      clear hA hC hq hl hq0 hsm kpa i2 i0 rv hul hol eU
      obtain ⟨cols, k1, k2, k3, k4⟩ := s
      obtain ⟨fl, co, gr, ag, so, lim⟩ := q
      simp only [schD, schC, qryC] at *
      rw [E_go (X := X) _ b5 _ rfl rfl]; unfold b5; (repeat (first | rw [s_assoc] | rw [s_seq_reg (by simp [go_sem, e7, e8, e9, e10, e16, e11, e13, k1', t1, eu, e15, k2']; exact ⟨rfl, rfl⟩)] | rw [s_cnd (by simp [lk, keepEnv, Od.v, e7, e8, e9, e10, e16, e11, e13, k1', t1, eu, e15, k2']; exact rfl)] | rw [cnd_t] | rw [cnd_f] | rw [s_skip] | rw [s_ret] | rw [s_exit] | rw [C_ret] | rw [C_exit] | rw [C_skip] | rw [blk_ret] | rw [blk_norm] | rw [blk_exit] | rw [blk_exit' (by decide)] | rw [blkT_ret] | rw [blkT_norm] | rw [blkT_exit] | rw [blkT_exit' (by decide)] | rw [s_blk] | rw [s_reg (by simp [go_sem, e7, e8, e9, e10, e16, e11, e13, k1', t1, eu, e15, k2']; exact ⟨rfl, rfl⟩)] | rw [t_cnd (by simp [lk, keepEnv, Od.v, e7, e8, e9, e10, e16, e11, e13, k1', t1, eu, e15, k2']; exact rfl)] | rw [t_blk])); simp [ends_ret, ends_norm, resL, go_sem, fin, fz0, fz1, fzT, fzL, nlt, e7, e8, e9, e10, e16, e11, e13, k1', t1, eu, e15, k2']
end Go.Proofs.YtobpbjmnonbblaaDoor
