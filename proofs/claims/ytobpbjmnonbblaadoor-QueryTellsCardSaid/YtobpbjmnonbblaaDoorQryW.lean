/- Ideal runs: the document's answer on queries (winnowerref16): Outs. -/
import Derived.Test.YtobpbjmnonbblaaDoorQryV
namespace Go.Proofs.YtobpbjmnonbblaaDoor
attribute [local go_sem] evOps evOp_n evOp_r evOp_d evOp_dr kpo_refl kpo_app cnd_some cnd_pair cnd_cnd_t cnd_cnd_f cnd_same cnd_dvb cnd_and cnd_or gd_bool gd_boolf gd_tup cnd_t cnd_f evTo isCall evx put lk Od.v keepEnv enterEnv ldx_ref rdc binx binI binS unx eqk DV.isU DV.cells hget hget0 hset hset0 stx_ref splice fillp mat eqcs eqs one_bool one_int one_str one_nilp one_ref one_elem one_nils one_list one_row one_nilm one_map one_nilf one_func one_nili one_ifc one_agg one_tup one_undef one_fresh
attribute [local go_sem ↓] evx_pick
set_option linter.unusedVariables false
set_option linter.unusedSimpArgs false
set_option maxRecDepth 10000
theorem loop13_0 {Hb : Heap} {Cd F Cn Gr Ag So : DV} {s : Sch} {l : Int} {b b1 : Nat} {ks pre : List Int} (hC : ∀ g, vw g 3 Cd = some (s.cols.map Cl.d)) (hb : Hb[b]? = some (.box 24 (schC Cd s))) (hb1 : Hb[b1]? = some (.box 30 (qryC F Cn Gr Ag So l))) (hL : ∀ g, vw g 1 Cn = some (ks.map intD)) (hl : ks.length ≤ 2000) (hpl : pre.length ≤ 2000) (hk : ∀ k ∈ ks, hasV s k = true) :
    ∀ (m i : Nat) (h : Heap) (o : DV), ks.length - i ≤ m → i ≤ ks.length → Gro 3 1 Hb h o ((pre ++ (ks.take i).map (kindV s)).map intD) → (pre = [] → i = 0 → o = .nils) → ∃ ex h' o', C X (.loop lp13_0) [(2, .ref b 0), (3, .ref b1 0), (6, o), (7, .int .i64 i)] h = some (.exit 0, (2, .ref b 0) :: (3, .ref b1 0) :: (6, o') :: ex, h') ∧ Gro 3 1 Hb h' o' ((pre ++ ks.map (kindV s)).map intD) ∧ (pre = [] → ks = [] → o' = .nils) := by
  intro m
  induction m with
  | zero =>
    intro i h o hm hi hg h0
    obtain rfl : i = ks.length := by omega
    have hb1' := pre_get hg.1 hb1
    refine ⟨[(7, .int .i64 ks.length), (20, .bool false)], h, o, ?_, by rw [List.take_length] at hg; exact hg, fun h1 h2 => h0 h1 (by rw [h2]; rfl)⟩
    simp only [qryC] at *
    rw [t_loop]
    unfold lp13_0
    (repeat (first | rw [s_assoc] | rw [s_seq_reg (by simp [go_sem, hL, hb1', ldx]; exact ⟨rfl, rfl⟩)] | rw [s_cnd (by simp [lk, keepEnv, Od.v, hL, hb1', ldx]; exact rfl)] | rw [cnd_t] | rw [cnd_f] | rw [s_skip] | rw [s_ret] | rw [s_exit] | rw [C_ret] | rw [C_exit] | rw [C_skip] | rw [blk_ret] | rw [blk_norm] | rw [blk_exit] | rw [blk_exit' (by decide)] | rw [blkT_ret] | rw [blkT_norm] | rw [blkT_exit] | rw [blkT_exit' (by decide)] | rw [s_blk] | rw [s_reg (by simp [go_sem, hL, hb1', ldx]; exact ⟨rfl, rfl⟩)] | rw [t_cnd (by simp [lk, keepEnv, Od.v, hL, hb1', ldx]; exact rfl)] | rw [t_blk]))
    rw [lp_exit]
    simp [keepEnv, lk]
  | succ m ih =>
    intro i h o hm hi hg h0
    by_cases c : i < ks.length
    · obtain ⟨I, hI⟩ : ∃ I, I = i + 1 := ⟨_, rfl⟩
      have z1 : IntKind.i64.wrap ((i : Int) + 1) = (I : Int) := (by rw [wrap64 _ (by omega) (by omega)]; omega)
      obtain ⟨x, hx⟩ : ∃ x, x = ks[i] := ⟨_, rfl⟩
      have hxi : ks[i]? = some x := by rw [hx]; exact List.getElem?_eq_getElem c
      have hx' := hx.symm
      have hhx := hk x (by rw [hx]; exact List.getElem_mem c)
      obtain ⟨o2, h2, ha, hg2⟩ := hg.app 8 [intD (kindV s x)] (by simp; omega)
      have hg2 : Gro 3 1 Hb h2 o2 ((pre ++ (ks.take I).map (kindV s)).map intD) := by
        have e : (pre ++ (ks.take I).map (kindV s)).map intD = (pre ++ (ks.take i).map (kindV s)).map intD ++ [intD (kindV s x)] := by
          rw [hI, ← List.take_append_getElem c, ← hx]
          simp only [List.map_append, List.map_cons, List.map_nil, List.append_assoc]
        rw [e]
        exact hg2
      have hIH := ih I h2 o2 (by omega) (by omega) hg2 (by omega)
      have hb' := pre_get hg.1 hb
      have hb1' := pre_get hg.1 hb1
      have hw := hg.vw
      have hs : C X lp13_0 [(2, .ref b 0), (3, .ref b1 0), (6, o), (7, .int .i64 i)] h = some (.norm, [(2, .ref b 0), (3, .ref b1 0), (6, o2), (7, .int .i64 I)], h2) := by
        cases hgg : getI s.cols x with
        | none => rw [has_none hgg] at hhx; cases hhx
        | some cl =>
          obtain ⟨_, p, rfl, hp, pl, hpe⟩ := has_some hgg
          have hkv : kindV s (p : Int) = cl.kd := by unfold kindV; rw [hgg]
          rw [hkv] at ha
          have y1 : ∀ (a : Int) h, eltL [.int .i64 a] h = some ([.int .i64 a], h) := fun _ _ => rfl
          have y2 : ∀ a, Wc 1 (.int .i64 a) := fun a => by simp [Wc, DV.cells, DV.one]
          have y3 : ∀ a, Nr (.int .i64 a) := fun a => .int _ _
          have y4 : ∀ (a : Int) h, srcOf h 1 (.list 1 [.int .i64 a] true) = some [.int .i64 a] := fun _ _ => rfl
          generalize (pre ++ (ks.take i).map (kindV s)).map intD = cur at *
          clear ih hIH hx hI hg hg2 hhx hgg hkv hk
          obtain ⟨cols, k1, k2, k3, k4⟩ := s
          obtain ⟨cn, ck, cl⟩ := cl
          simp only [schD, schC, Cl.d, intD, qryC] at *
          have pl : p < cols.length := pl
          unfold lp13_0
          (repeat (first | rw [s_assoc] | rw [s_seq_reg (by simp [go_sem, c, z1, hL, hb', hb1', hx', hxi, hC, hp, pl, hpe, y1, y2, y3, y4, hw, ha, ldx]; exact ⟨rfl, rfl⟩)] | rw [s_cnd (by simp [lk, keepEnv, Od.v, c, z1, hL, hb', hb1', hx', hxi, hC, hp, pl, hpe, y1, y2, y3, y4, hw, ha, ldx]; exact rfl)] | rw [cnd_t] | rw [cnd_f] | rw [s_skip] | rw [s_ret] | rw [s_exit] | rw [C_ret] | rw [C_exit] | rw [C_skip] | rw [blk_ret] | rw [blk_norm] | rw [blk_exit] | rw [blk_exit' (by decide)] | rw [blkT_ret] | rw [blkT_norm] | rw [blkT_exit] | rw [blkT_exit' (by decide)] | rw [s_blk] | rw [s_reg (by simp [go_sem, c, z1, hL, hb', hb1', hx', hxi, hC, hp, pl, hpe, y1, y2, y3, y4, hw, ha, ldx]; exact ⟨rfl, rfl⟩)] | rw [t_cnd (by simp [lk, keepEnv, Od.v, c, z1, hL, hb', hb1', hx', hxi, hC, hp, pl, hpe, y1, y2, y3, y4, hw, ha, ldx]; exact rfl)] | rw [t_blk]))
          simp [keepEnv, lk]
      rw [t_loop, hs, lp_norm]
      exact hIH
    · exact ih i h o (by omega) hi hg h0
theorem loop13_1 {Hb : Heap} {Cd F Cn Gr Ag So : DV} {s : Sch} {l : Int} {b b1 : Nat} {ks pre : List Int} (hC : ∀ g, vw g 3 Cd = some (s.cols.map Cl.d)) (hb : Hb[b]? = some (.box 24 (schC Cd s))) (hb1 : Hb[b1]? = some (.box 30 (qryC F Cn Gr Ag So l))) (hL : ∀ g, vw g 1 Gr = some (ks.map intD)) (hl : ks.length ≤ 2000) (hpl : pre.length ≤ 2000) (hk : ∀ k ∈ ks, hasV s k = true) :
    ∀ (m i : Nat) (h : Heap) (o : DV), ks.length - i ≤ m → i ≤ ks.length → Gro 3 1 Hb h o ((pre ++ (ks.take i).map (kindV s)).map intD) → (pre = [] → i = 0 → o = .nils) → ∃ ex h' o', C X (.loop lp13_1) [(2, .ref b 0), (3, .ref b1 0), (6, o), (8, .int .i64 i)] h = some (.exit 2, (2, .ref b 0) :: (3, .ref b1 0) :: (6, o') :: ex, h') ∧ Gro 3 1 Hb h' o' ((pre ++ ks.map (kindV s)).map intD) ∧ (pre = [] → ks = [] → o' = .nils) := by
  intro m
  induction m with
  | zero =>
    intro i h o hm hi hg h0
    obtain rfl : i = ks.length := by omega
    have hb1' := pre_get hg.1 hb1
    refine ⟨[(8, .int .i64 ks.length), (40, .bool false)], h, o, ?_, by rw [List.take_length] at hg; exact hg, fun h1 h2 => h0 h1 (by rw [h2]; rfl)⟩
    simp only [qryC] at *
    rw [t_loop]
    unfold lp13_1
    (repeat (first | rw [s_assoc] | rw [s_seq_reg (by simp [go_sem, hL, hb1', ldx]; exact ⟨rfl, rfl⟩)] | rw [s_cnd (by simp [lk, keepEnv, Od.v, hL, hb1', ldx]; exact rfl)] | rw [cnd_t] | rw [cnd_f] | rw [s_skip] | rw [s_ret] | rw [s_exit] | rw [C_ret] | rw [C_exit] | rw [C_skip] | rw [blk_ret] | rw [blk_norm] | rw [blk_exit] | rw [blk_exit' (by decide)] | rw [blkT_ret] | rw [blkT_norm] | rw [blkT_exit] | rw [blkT_exit' (by decide)] | rw [s_blk] | rw [s_reg (by simp [go_sem, hL, hb1', ldx]; exact ⟨rfl, rfl⟩)] | rw [t_cnd (by simp [lk, keepEnv, Od.v, hL, hb1', ldx]; exact rfl)] | rw [t_blk]))
    rw [lp_exit]
    simp [keepEnv, lk]
  | succ m ih =>
    intro i h o hm hi hg h0
    by_cases c : i < ks.length
    · obtain ⟨I, hI⟩ : ∃ I, I = i + 1 := ⟨_, rfl⟩
      have z1 : IntKind.i64.wrap ((i : Int) + 1) = (I : Int) := (by rw [wrap64 _ (by omega) (by omega)]; omega)
      obtain ⟨x, hx⟩ : ∃ x, x = ks[i] := ⟨_, rfl⟩
      have hxi : ks[i]? = some x := by rw [hx]; exact List.getElem?_eq_getElem c
      have hx' := hx.symm
      have hhx := hk x (by rw [hx]; exact List.getElem_mem c)
      obtain ⟨o2, h2, ha, hg2⟩ := hg.app 8 [intD (kindV s x)] (by simp; omega)
      have hg2 : Gro 3 1 Hb h2 o2 ((pre ++ (ks.take I).map (kindV s)).map intD) := by
        have e : (pre ++ (ks.take I).map (kindV s)).map intD = (pre ++ (ks.take i).map (kindV s)).map intD ++ [intD (kindV s x)] := by
          rw [hI, ← List.take_append_getElem c, ← hx]
          simp only [List.map_append, List.map_cons, List.map_nil, List.append_assoc]
        rw [e]
        exact hg2
      have hIH := ih I h2 o2 (by omega) (by omega) hg2 (by omega)
      have hb' := pre_get hg.1 hb
      have hb1' := pre_get hg.1 hb1
      have hw := hg.vw
      have hs : C X lp13_1 [(2, .ref b 0), (3, .ref b1 0), (6, o), (8, .int .i64 i)] h = some (.norm, [(2, .ref b 0), (3, .ref b1 0), (6, o2), (8, .int .i64 I)], h2) := by
        cases hgg : getI s.cols x with
        | none => rw [has_none hgg] at hhx; cases hhx
        | some cl =>
          obtain ⟨_, p, rfl, hp, pl, hpe⟩ := has_some hgg
          have hkv : kindV s (p : Int) = cl.kd := by unfold kindV; rw [hgg]
          rw [hkv] at ha
          have y1 : ∀ (a : Int) h, eltL [.int .i64 a] h = some ([.int .i64 a], h) := fun _ _ => rfl
          have y2 : ∀ a, Wc 1 (.int .i64 a) := fun a => by simp [Wc, DV.cells, DV.one]
          have y3 : ∀ a, Nr (.int .i64 a) := fun a => .int _ _
          have y4 : ∀ (a : Int) h, srcOf h 1 (.list 1 [.int .i64 a] true) = some [.int .i64 a] := fun _ _ => rfl
          generalize (pre ++ (ks.take i).map (kindV s)).map intD = cur at *
          clear ih hIH hx hI hg hg2 hhx hgg hkv hk
          obtain ⟨cols, k1, k2, k3, k4⟩ := s
          obtain ⟨cn, ck, cl⟩ := cl
          simp only [schD, schC, Cl.d, intD, qryC] at *
          have pl : p < cols.length := pl
          unfold lp13_1
          (repeat (first | rw [s_assoc] | rw [s_seq_reg (by simp [go_sem, c, z1, hL, hb', hb1', hx', hxi, hC, hp, pl, hpe, y1, y2, y3, y4, hw, ha, ldx]; exact ⟨rfl, rfl⟩)] | rw [s_cnd (by simp [lk, keepEnv, Od.v, c, z1, hL, hb', hb1', hx', hxi, hC, hp, pl, hpe, y1, y2, y3, y4, hw, ha, ldx]; exact rfl)] | rw [cnd_t] | rw [cnd_f] | rw [s_skip] | rw [s_ret] | rw [s_exit] | rw [C_ret] | rw [C_exit] | rw [C_skip] | rw [blk_ret] | rw [blk_norm] | rw [blk_exit] | rw [blk_exit' (by decide)] | rw [blkT_ret] | rw [blkT_norm] | rw [blkT_exit] | rw [blkT_exit' (by decide)] | rw [s_blk] | rw [s_reg (by simp [go_sem, c, z1, hL, hb', hb1', hx', hxi, hC, hp, pl, hpe, y1, y2, y3, y4, hw, ha, ldx]; exact ⟨rfl, rfl⟩)] | rw [t_cnd (by simp [lk, keepEnv, Od.v, c, z1, hL, hb', hb1', hx', hxi, hC, hp, pl, hpe, y1, y2, y3, y4, hw, ha, ldx]; exact rfl)] | rw [t_blk]))
          simp [keepEnv, lk]
      rw [t_loop, hs, lp_norm]
      exact hIH
    · exact ih i h o (by omega) hi hg h0
theorem loop13_2 {Hb : Heap} {Cd F Cn Gr Ag So : DV} {s : Sch} {l : Int} {b b1 : Nat} {xs : List (Int × Int)} {pre : List Int} (hC : ∀ g, vw g 3 Cd = some (s.cols.map Cl.d)) (hb : Hb[b]? = some (.box 24 (schC Cd s))) (hb1 : Hb[b1]? = some (.box 30 (qryC F Cn Gr Ag So l))) (hA : ∀ g, vw g 2 Ag = some (xs.map agD)) (hl : xs.length ≤ 1000) (hpl : pre.length ≤ 4000) (hk : ∀ x ∈ xs, x.1 = 3 ∨ x.1 = 4 → hasV s x.2 = true) :
    ∀ (m i : Nat) (h : Heap) (o : DV), xs.length - i ≤ m → i ≤ xs.length → Gro 3 1 Hb h o ((pre ++ (xs.take i).map (aggK s)).map intD) → (pre = [] → i = 0 → o = .nils) → ∃ ex h' o', C X (.loop lp13_2) [(2, .ref b 0), (3, .ref b1 0), (6, o), (9, .int .i64 i)] h = some (.exit 4, (2, .ref b 0) :: (3, .ref b1 0) :: (6, o') :: ex, h') ∧ Gro 3 1 Hb h' o' ((pre ++ xs.map (aggK s)).map intD) ∧ (pre = [] → xs = [] → o' = .nils) := by
  intro m
  induction m with
  | zero =>
    intro i h o hm hi hg h0
    obtain rfl : i = xs.length := by omega
    have hb1' := pre_get hg.1 hb1
    refine ⟨[(9, .int .i64 xs.length), (60, .bool false)], h, o, ?_, by rw [List.take_length] at hg; exact hg, fun h1 h2 => h0 h1 (by rw [h2]; rfl)⟩
    simp only [qryC] at *
    rw [t_loop]
    unfold lp13_2
    (repeat (first | rw [s_assoc] | rw [s_seq_reg (by simp [go_sem, hA, hb1', ldx]; exact ⟨rfl, rfl⟩)] | rw [s_cnd (by simp [lk, keepEnv, Od.v, hA, hb1', ldx]; exact rfl)] | rw [cnd_t] | rw [cnd_f] | rw [s_skip] | rw [s_ret] | rw [s_exit] | rw [C_ret] | rw [C_exit] | rw [C_skip] | rw [blk_ret] | rw [blk_norm] | rw [blk_exit] | rw [blk_exit' (by decide)] | rw [blkT_ret] | rw [blkT_norm] | rw [blkT_exit] | rw [blkT_exit' (by decide)] | rw [s_blk] | rw [s_reg (by simp [go_sem, hA, hb1', ldx]; exact ⟨rfl, rfl⟩)] | rw [t_cnd (by simp [lk, keepEnv, Od.v, hA, hb1', ldx]; exact rfl)] | rw [t_blk]))
    rw [lp_exit]
    simp [keepEnv, lk]
  | succ m ih =>
    intro i h o hm hi hg h0
    by_cases c : i < xs.length
    · obtain ⟨I, hI⟩ : ∃ I, I = i + 1 := ⟨_, rfl⟩
      have z1 : IntKind.i64.wrap ((i : Int) + 1) = (I : Int) := (by rw [wrap64 _ (by omega) (by omega)]; omega)
      obtain ⟨x, hx⟩ : ∃ x, x = xs[i] := ⟨_, rfl⟩
      have hxi : xs[i]? = some x := by rw [hx]; exact List.getElem?_eq_getElem c
      have hx' := hx.symm
      have hhx := hk x (by rw [hx]; exact List.getElem_mem c)
      have hge := hg.ext [.box 51 [.int .i64 x.1, .int .i64 x.2]]
      obtain ⟨o2, h2, ha, hg2⟩ := hge.app 8 [intD (aggK s x)] (by simp; omega)
      have hg2 : Gro 3 1 Hb h2 o2 ((pre ++ (xs.take I).map (aggK s)).map intD) := by
        have e : (pre ++ (xs.take I).map (aggK s)).map intD = (pre ++ (xs.take i).map (aggK s)).map intD ++ [intD (aggK s x)] := by
          rw [hI, ← List.take_append_getElem c, ← hx]
          simp only [List.map_append, List.map_cons, List.map_nil, List.append_assoc]
        rw [e]
        exact hg2
      have hIH := ih I h2 o2 (by omega) (by omega) hg2 (by omega)
      have hb' := pre_get hg.1 hb
      have hbe := pre_get hge.1 hb
      have hb1' := pre_get hg.1 hb1
      have hw := hge.vw
      have y1 : ∀ (a : Int) h, eltL [.int .i64 a] h = some ([.int .i64 a], h) := fun _ _ => rfl
      have y2 : ∀ a, Wc 1 (.int .i64 a) := fun a => by simp [Wc, DV.cells, DV.one]
      have y3 : ∀ a, Nr (.int .i64 a) := fun a => .int _ _
      have y4 : ∀ (a : Int) h, srcOf h 1 (.list 1 [.int .i64 a] true) = some [.int .i64 a] := fun _ _ => rfl
      have hs : C X lp13_2 [(2, .ref b 0), (3, .ref b1 0), (6, o), (9, .int .i64 i)] h = some (.norm, [(2, .ref b 0), (3, .ref b1 0), (6, o2), (9, .int .i64 I)], h2) := by
        generalize (pre ++ (xs.take i).map (aggK s)).map intD = cur at *
        by_cases c3 : x.1 = 3 ∨ x.1 = 4
        · have hhx := hhx c3
          cases hgg : getI s.cols x.2 with
          | none => rw [has_none hgg] at hhx; cases hhx
          | some cl =>
            obtain ⟨_, p, hpp, hp, pl, hpe⟩ := has_some hgg
            have hkv : aggK s x = cl.kd := by unfold aggK; rw [if_pos c3]; unfold kindV; rw [hgg]
            rw [hkv] at ha
            clear ih hIH hx hI hg hge hg2 hhx hgg hkv hk
            obtain ⟨cols, k1, k2, k3, k4⟩ := s
            obtain ⟨cn, ck, cl⟩ := cl
            obtain ⟨x1, x2⟩ := x
            simp only [schD, schC, Cl.d, intD, agD, qryC] at *
            subst hpp
            have pl : p < cols.length := pl
            unfold lp13_2
            rcases c3 with rfl | rfl
            · (repeat (first | rw [s_assoc] | rw [s_seq_reg (by simp [go_sem, c, z1, hA, hb', hbe, hb1', hx', hxi, hC, hp, pl, hpe, y1, y2, y3, y4, hw, ha, ldx]; exact ⟨rfl, rfl⟩)] | rw [s_cnd (by simp [lk, keepEnv, Od.v, c, z1, hA, hb', hbe, hb1', hx', hxi, hC, hp, pl, hpe, y1, y2, y3, y4, hw, ha, ldx]; exact rfl)] | rw [cnd_t] | rw [cnd_f] | rw [s_skip] | rw [s_ret] | rw [s_exit] | rw [C_ret] | rw [C_exit] | rw [C_skip] | rw [blk_ret] | rw [blk_norm] | rw [blk_exit] | rw [blk_exit' (by decide)] | rw [blkT_ret] | rw [blkT_norm] | rw [blkT_exit] | rw [blkT_exit' (by decide)] | rw [s_blk] | rw [s_reg (by simp [go_sem, c, z1, hA, hb', hbe, hb1', hx', hxi, hC, hp, pl, hpe, y1, y2, y3, y4, hw, ha, ldx]; exact ⟨rfl, rfl⟩)] | rw [t_cnd (by simp [lk, keepEnv, Od.v, c, z1, hA, hb', hbe, hb1', hx', hxi, hC, hp, pl, hpe, y1, y2, y3, y4, hw, ha, ldx]; exact rfl)] | rw [t_blk]))
              simp [keepEnv, lk]
            · (repeat (first | rw [s_assoc] | rw [s_seq_reg (by simp [go_sem, c, z1, hA, hb', hbe, hb1', hx', hxi, hC, hp, pl, hpe, y1, y2, y3, y4, hw, ha, ldx]; exact ⟨rfl, rfl⟩)] | rw [s_cnd (by simp [lk, keepEnv, Od.v, c, z1, hA, hb', hbe, hb1', hx', hxi, hC, hp, pl, hpe, y1, y2, y3, y4, hw, ha, ldx]; exact rfl)] | rw [cnd_t] | rw [cnd_f] | rw [s_skip] | rw [s_ret] | rw [s_exit] | rw [C_ret] | rw [C_exit] | rw [C_skip] | rw [blk_ret] | rw [blk_norm] | rw [blk_exit] | rw [blk_exit' (by decide)] | rw [blkT_ret] | rw [blkT_norm] | rw [blkT_exit] | rw [blkT_exit' (by decide)] | rw [s_blk] | rw [s_reg (by simp [go_sem, c, z1, hA, hb', hbe, hb1', hx', hxi, hC, hp, pl, hpe, y1, y2, y3, y4, hw, ha, ldx]; exact ⟨rfl, rfl⟩)] | rw [t_cnd (by simp [lk, keepEnv, Od.v, c, z1, hA, hb', hbe, hb1', hx', hxi, hC, hp, pl, hpe, y1, y2, y3, y4, hw, ha, ldx]; exact rfl)] | rw [t_blk]))
              simp [keepEnv, lk]
        · have hkv : aggK s x = 1 := by unfold aggK; rw [if_neg c3]
          rw [hkv] at ha
          have d3 : (x.1 == 3) = false := by simp; omega
          have d4 : (x.1 == 4) = false := by simp; omega
          clear ih hIH hx hI hg hge hg2 hhx hkv hk c3
          obtain ⟨cols, k1, k2, k3, k4⟩ := s
          obtain ⟨x1, x2⟩ := x
          simp only [schD, schC, Cl.d, intD, agD, qryC] at *
          unfold lp13_2
          (repeat (first | rw [s_assoc] | rw [s_seq_reg (by simp [go_sem, c, z1, hA, hb', hbe, hb1', hx', hxi, d3, d4, y1, y2, y3, y4, hw, ha, ldx]; exact ⟨rfl, rfl⟩)] | rw [s_cnd (by simp [lk, keepEnv, Od.v, c, z1, hA, hb', hbe, hb1', hx', hxi, d3, d4, y1, y2, y3, y4, hw, ha, ldx]; exact rfl)] | rw [cnd_t] | rw [cnd_f] | rw [s_skip] | rw [s_ret] | rw [s_exit] | rw [C_ret] | rw [C_exit] | rw [C_skip] | rw [blk_ret] | rw [blk_norm] | rw [blk_exit] | rw [blk_exit' (by decide)] | rw [blkT_ret] | rw [blkT_norm] | rw [blkT_exit] | rw [blkT_exit' (by decide)] | rw [s_blk] | rw [s_reg (by simp [go_sem, c, z1, hA, hb', hbe, hb1', hx', hxi, d3, d4, y1, y2, y3, y4, hw, ha, ldx]; exact ⟨rfl, rfl⟩)] | rw [t_cnd (by simp [lk, keepEnv, Od.v, c, z1, hA, hb', hbe, hb1', hx', hxi, d3, d4, y1, y2, y3, y4, hw, ha, ldx]; exact rfl)] | rw [t_blk]))
          simp [keepEnv, lk]
      rw [t_loop, hs, lp_norm]
      exact hIH
    · exact ih i h o (by omega) hi hg h0
set_option maxHeartbeats 2000000 in
theorem run13 {H : Heap} {Cd F Cn Gr Ag So : DV} {s : Sch} {q : Qry} (hC : ∀ g, vw g 3 Cd = some (s.cols.map Cl.d)) (hl : s.cols.length ≤ 1000) (hq : QV H F Cn Gr Ag So q) : E X 13 [schD Cd s, .agg (qryC F Cn Gr Ag So q.lim)] H = some (conD (outsV s q), H) := by
  obtain ⟨H1, hH1⟩ : ∃ H1, H1 = H ++ [HO.box 24 (schC Cd s), .box 30 (qryC F Cn Gr Ag So q.lim)] := ⟨_, rfl⟩
  have hq1 : QV H1 F Cn Gr Ag So q := by rw [hH1]; exact hq.ext _
  have hs1 : H1[H.length]? = some (.box 24 (schC Cd s)) := by rw [hH1]; simp
  have hb1 : H1[H.length + 1]? = some (.box 30 (qryC F Cn Gr Ag So q.lim)) := by rw [hH1]; simp [hget]
  have ht1 : H1.take H.length = H := by rw [hH1, List.take_append_of_le_length (Nat.le_refl _)]; exact List.take_length
  have e16 := run16 hC hl hq1
  by_cases p0 : checkV s q ≠ 0
  · have hv : outsV s q = [] := by unfold outsV; rw [if_pos p0]
    rw [hv]
    have p0' : (checkV s q != 0) = true := by simpa using p0
    generalize checkV s q = r at *
    subst hH1
    obtain ⟨cols, k1, k2, k3, k4⟩ := s
    simp only [schD, schC, qryC] at *
    clear hv hs1 hb1 ht1 hq1
    rw [E_go (X := X) _ b13 _ rfl rfl]; unfold b13; (repeat (first | rw [s_assoc] | rw [s_seq_reg (by simp [go_sem, e16, p0, p0', conD]; exact ⟨rfl, rfl⟩)] | rw [s_cnd (by simp [lk, keepEnv, Od.v, e16, p0, p0', conD]; exact rfl)] | rw [cnd_t] | rw [cnd_f] | rw [s_skip] | rw [s_ret] | rw [s_exit] | rw [C_ret] | rw [C_exit] | rw [C_skip] | rw [blk_ret] | rw [blk_norm] | rw [blk_exit] | rw [blk_exit' (by decide)] | rw [blkT_ret] | rw [blkT_norm] | rw [blkT_exit] | rw [blkT_exit' (by decide)] | rw [s_blk] | rw [s_reg (by simp [go_sem, e16, p0, p0', conD]; exact ⟨rfl, rfl⟩)] | rw [t_cnd (by simp [lk, keepEnv, Od.v, e16, p0, p0', conD]; exact rfl)] | rw [t_blk])); simp [ends_ret, ends_norm, resL, go_sem, fin, fz0, fz1, fzT, fzL, nlt, e16, p0, p0', conD]
  have p0' : checkV s q = 0 := by simpa using p0
  rw [p0'] at e16
  obtain ⟨c1, c2, c3, c4, c5, c6, c7⟩ := check_zero p0'
  have hv : outsV s q = (q.cols.map (kindV s) ++ q.group.map (kindV s)) ++ q.aggs.map (aggK s) := by unfold outsV; rw [if_neg p0, List.map_append]
  have hnc := hq.nc
  have hng := hq.ng
  have hna := hq.na
  obtain ⟨x0, h2, o2, hc0, g2, n2⟩ := loop13_0 (pre := []) hC hs1 hb1 hq.c.vw (by omega) (by simp) (fun k hk => c4 k (List.mem_append_left _ hk)) q.cols.length 0 H1 .nils (by omega) (by omega) Gro.zero (fun _ _ => rfl)
  simp only [List.nil_append] at g2
  obtain ⟨x1, h3, o3, hc1, g3, n3⟩ := loop13_1 (pre := q.cols.map (kindV s)) hC hs1 hb1 hq.g.vw (by omega) (by simp; omega) (fun k hk => c4 k (List.mem_append_right _ hk)) q.group.length 0 h2 o2 (by omega) (by omega) (by simpa using g2) (fun h _ => n2 rfl (by simpa using h))
  obtain ⟨x2, h4, o4, hc2, g4, n4⟩ := loop13_2 (pre := q.cols.map (kindV s) ++ q.group.map (kindV s)) hC hs1 hb1 hq.a hna (by simp; omega) (fun x hx h34 => agg_has (aggsV_zero c5 x hx) h34) q.aggs.length 0 h3 o3 (by omega) (by omega) (by simpa using g3) (fun h _ => n3 (List.append_eq_nil_iff.1 h).1 (by simpa using (List.append_eq_nil_iff.1 h).2))
  rw [show ((0 : Nat) : Int) = 0 from rfl] at hc0 hc1 hc2
  rw [← hv] at g4
  have hfin := gro_con (g4.base ht1) (fun h => by
    rw [hv] at h
    obtain ⟨q1, q2⟩ := List.append_eq_nil_iff.1 h
    exact n4 q1 (by simpa using q2))
  generalize conD (outsV s q) = R at *
  clear hv hs1 hb1 hq1 c1 c2 c3 c4 c5 c6 c7 g2 g3 g4 n2 n3 n4 ht1 p0 p0' hq
  subst hH1
  obtain ⟨cols, k1, k2, k3, k4⟩ := s
  obtain ⟨fl, co, gr, ag, so, lim⟩ := q
  simp only [schD, schC, qryC] at *
  rw [E_go (X := X) _ b13 _ rfl rfl]; unfold b13
  (repeat (first | rw [s_assoc] | rw [s_seq_reg (by simp [go_sem, e16]; exact ⟨rfl, rfl⟩)] | rw [s_cnd (by simp [lk, keepEnv, Od.v, e16]; exact rfl)] | rw [cnd_t] | rw [cnd_f] | rw [s_skip] | rw [s_ret] | rw [s_exit] | rw [C_ret] | rw [C_exit] | rw [C_skip] | rw [blk_ret] | rw [blk_norm] | rw [blk_exit] | rw [blk_exit' (by decide)] | rw [blkT_ret] | rw [blkT_norm] | rw [blkT_exit] | rw [blkT_exit' (by decide)] | rw [s_blk] | rw [s_reg (by simp [go_sem, e16]; exact ⟨rfl, rfl⟩)] | rw [t_cnd (by simp [lk, keepEnv, Od.v, e16]; exact rfl)] | rw [t_blk]))
  (try simp only [keepEnv, List.map_cons, List.map_nil, lk, reduceIte, Nat.reduceEqDiff, Nat.zero_ne_one, Nat.one_ne_zero])
  rw [hc0]
  (repeat (first | rw [s_assoc] | rw [s_seq_reg (by simp [go_sem]; exact ⟨rfl, rfl⟩)] | rw [s_cnd (by simp [lk, keepEnv, Od.v]; exact rfl)] | rw [cnd_t] | rw [cnd_f] | rw [s_skip] | rw [s_ret] | rw [s_exit] | rw [C_ret] | rw [C_exit] | rw [C_skip] | rw [blk_ret] | rw [blk_norm] | rw [blk_exit] | rw [blk_exit' (by decide)] | rw [blkT_ret] | rw [blkT_norm] | rw [blkT_exit] | rw [blkT_exit' (by decide)] | rw [s_blk] | rw [s_reg (by simp [go_sem]; exact ⟨rfl, rfl⟩)] | rw [t_cnd (by simp [lk, keepEnv, Od.v]; exact rfl)] | rw [t_blk]))
  (try simp only [keepEnv, List.map_cons, List.map_nil, lk, reduceIte, Nat.reduceEqDiff, Nat.zero_ne_one, Nat.one_ne_zero])
  rw [hc1]
  (repeat (first | rw [s_assoc] | rw [s_seq_reg (by simp [go_sem]; exact ⟨rfl, rfl⟩)] | rw [s_cnd (by simp [lk, keepEnv, Od.v]; exact rfl)] | rw [cnd_t] | rw [cnd_f] | rw [s_skip] | rw [s_ret] | rw [s_exit] | rw [C_ret] | rw [C_exit] | rw [C_skip] | rw [blk_ret] | rw [blk_norm] | rw [blk_exit] | rw [blk_exit' (by decide)] | rw [blkT_ret] | rw [blkT_norm] | rw [blkT_exit] | rw [blkT_exit' (by decide)] | rw [s_blk] | rw [s_reg (by simp [go_sem]; exact ⟨rfl, rfl⟩)] | rw [t_cnd (by simp [lk, keepEnv, Od.v]; exact rfl)] | rw [t_blk]))
  (try simp only [keepEnv, List.map_cons, List.map_nil, lk, reduceIte, Nat.reduceEqDiff, Nat.zero_ne_one, Nat.one_ne_zero])
  rw [hc2]
  (repeat (first | rw [s_assoc] | rw [s_seq_reg (by simp [go_sem]; exact ⟨rfl, rfl⟩)] | rw [s_cnd (by simp [lk, keepEnv, Od.v]; exact rfl)] | rw [cnd_t] | rw [cnd_f] | rw [s_skip] | rw [s_ret] | rw [s_exit] | rw [C_ret] | rw [C_exit] | rw [C_skip] | rw [blk_ret] | rw [blk_norm] | rw [blk_exit] | rw [blk_exit' (by decide)] | rw [blkT_ret] | rw [blkT_norm] | rw [blkT_exit] | rw [blkT_exit' (by decide)] | rw [s_blk] | rw [s_reg (by simp [go_sem]; exact ⟨rfl, rfl⟩)] | rw [t_cnd (by simp [lk, keepEnv, Od.v]; exact rfl)] | rw [t_blk]))
  rw [ends_ret]
  simp [resL, lk, keepEnv, hfin]
end Go.Proofs.YtobpbjmnonbblaaDoor
