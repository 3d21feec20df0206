/- Ideal runs: query.Uses. -/
import Derived.Test.YtobpbjmnonbblaaDoorQryH
import Derived.Test.YtobpbjmnonbblaaDoorQryN
import Derived.Test.YtobpbjmnonbblaaDoorSrtI
namespace Go.Proofs.YtobpbjmnonbblaaDoor
attribute [local go_sem] evOps evOp_n evOp_r evOp_d evOp_dr kpo_refl kpo_app cnd_some cnd_pair cnd_cnd_t cnd_cnd_f cnd_same cnd_dvb cnd_and cnd_or gd_bool gd_boolf gd_tup cnd_t cnd_f evTo isCall evx put lk Od.v keepEnv enterEnv ldx_ref rdc binx binI binS unx eqk DV.isU DV.cells hget hget0 hset hset0 stx_ref splice fillp mat eqcs eqs one_bool one_int one_str one_nilp one_ref one_elem one_nils one_list one_row one_nilm one_map one_nilf one_func one_nili one_ifc one_agg one_tup one_undef one_fresh
attribute [local go_sem ↓] evx_pick
set_option linter.unusedVariables false
set_option linter.unusedSimpArgs false
set_option maxRecDepth 10000
def usedN (x : N) : Bool := needsV x.ask == 1 || needsV x.ask == 2
theorem loop14_0 {Hb : Heap} {F : DV} {xs : List N} {b : Nat} {pre : List Int} (hF : vw Hb 8 F = some (xs.map N.d)) (hl : xs.length ≤ 1000) (hpl : pre.length ≤ 2000) :
    ∀ (m i : Nat) (h : Heap) (o : DV), xs.length - i ≤ m → i ≤ xs.length → Gro 3 1 Hb h o ((pre ++ ((xs.take i).filter usedN).map N.col).map intD) → ∃ ex h' o', C X (.loop lp14_0) [(1, .ref b 0), (3, o), (16, F), (17, .int .i64 xs.length), (18, .int .i64 i)] h = some (.exit 0, (1, .ref b 0) :: (3, o') :: ex, h') ∧ Gro 3 1 Hb h' o' ((pre ++ (xs.filter usedN).map N.col).map intD) := by
  intro m
  induction m with
  | zero =>
    intro i h o hm hi hg
    obtain rfl : i = xs.length := by omega
    refine ⟨[(16, F), (17, .int .i64 xs.length), (18, .int .i64 xs.length), (19, .bool false)], h, o, ?_, by rw [List.take_length] at hg; exact hg⟩
    rw [t_loop]
    unfold lp14_0
    (repeat (first | rw [s_assoc] | rw [s_seq_reg (by simp [go_sem]; exact ⟨rfl, rfl⟩)] | rw [s_cnd (by simp [lk, keepEnv, Od.v]; exact rfl)] | rw [cnd_t] | rw [cnd_f] | rw [s_skip] | rw [s_ret] | rw [s_exit] | rw [C_ret] | rw [C_exit] | rw [C_skip] | rw [blk_ret] | rw [blk_norm] | rw [blk_exit] | rw [blk_exit' (by decide)] | rw [blkT_ret] | rw [blkT_norm] | rw [blkT_exit] | rw [blkT_exit' (by decide)] | rw [s_blk] | rw [s_reg (by simp [go_sem]; exact ⟨rfl, rfl⟩)] | rw [t_cnd (by simp [lk, keepEnv, Od.v]; exact rfl)] | rw [t_blk]))
    rw [lp_exit]
    simp [keepEnv, lk]
  | succ m ih =>
    intro i h o hm hi hg
    by_cases c : i < xs.length
    · obtain ⟨I, hI⟩ : ∃ I, I = i + 1 := ⟨_, rfl⟩
      have z1 : IntKind.i64.wrap ((i : Int) + 1) = (I : Int) := (by rw [wrap64 _ (by omega) (by omega)]; omega)
      obtain ⟨x, hx⟩ : ∃ x, x = xs[i] := ⟨_, rfl⟩
      have hxi : xs[i]? = some x := by rw [hx]; exact List.getElem?_eq_getElem c
      have hx' := hx.symm
      have hF' := pre_vw hg.1 hF
      have hge := hg.ext [.box 41 x.d.cells]
      have hw := hge.vw
      have e29 := fun g => run29 x.ask g
      have htk : (xs.take I).filter usedN = (xs.take i).filter usedN ++ (if usedN x = true then [x] else []) := by
        rw [hI, ← List.take_append_getElem c, ← hx, List.filter_append]
        congr 1
        by_cases hu : usedN x = true <;> simp [hu]
      cases hu : usedN x with
      | false =>
        rw [hu] at htk
        simp only [Bool.false_eq_true, if_false, List.append_nil] at htk
        have hIH := ih I _ o (by omega) (by omega) (by rw [htk]; exact hge)
        have hs : C X lp14_0 [(1, .ref b 0), (3, o), (16, F), (17, .int .i64 xs.length), (18, .int .i64 i)] h = some (.norm, [(1, .ref b 0), (3, o), (16, F), (17, .int .i64 xs.length), (18, .int .i64 I)], h ++ [.box 41 x.d.cells]) := by
          have hn1 : (needsV x.ask == 1) = false := by unfold usedN at hu; simp only [Bool.or_eq_false_iff] at hu; exact hu.1
          have hn2 : (needsV x.ask == 2) = false := by unfold usedN at hu; simp only [Bool.or_eq_false_iff] at hu; exact hu.2
          generalize ((pre ++ ((xs.take i).filter usedN).map N.col).map intD) = cur at *
          generalize needsV x.ask = nd at *
          clear ih hIH hx hI hg hge hu htk
          obtain ⟨ask, col, ⟨vk, vn, vs', vt⟩, xa, xb⟩ := x
          simp only [N.d, V.d, DV.cells] at *
          unfold lp14_0
          (repeat (first | rw [s_assoc] | rw [s_seq_reg (by simp [go_sem, c, z1, hF', hx', hxi, e29, hn1, hn2, ldx]; exact ⟨rfl, rfl⟩)] | rw [s_cnd (by simp [lk, keepEnv, Od.v, c, z1, hF', hx', hxi, e29, hn1, hn2, ldx]; exact rfl)] | rw [cnd_t] | rw [cnd_f] | rw [s_skip] | rw [s_ret] | rw [s_exit] | rw [C_ret] | rw [C_exit] | rw [C_skip] | rw [blk_ret] | rw [blk_norm] | rw [blk_exit] | rw [blk_exit' (by decide)] | rw [blkT_ret] | rw [blkT_norm] | rw [blkT_exit] | rw [blkT_exit' (by decide)] | rw [s_blk] | rw [s_reg (by simp [go_sem, c, z1, hF', hx', hxi, e29, hn1, hn2, ldx]; exact ⟨rfl, rfl⟩)] | rw [t_cnd (by simp [lk, keepEnv, Od.v, c, z1, hF', hx', hxi, e29, hn1, hn2, ldx]; exact rfl)] | rw [t_blk]))
          simp [keepEnv, lk]
        rw [t_loop, hs, lp_norm]
        exact hIH
      | true =>
        rw [hu] at htk
        simp only [if_true] at htk
        have hfl : ((xs.take i).filter usedN).length ≤ 1000 := by
          have h1 := List.length_filter_le usedN (xs.take i)
          have h2 : (xs.take i).length ≤ xs.length := List.length_take_le' _ _
          omega
        obtain ⟨o2, h2, ha, hg2⟩ := hge.app 8 [intD x.col] (by simp only [List.length_map, List.length_append, List.length_cons, List.length_nil]; omega)
        have hg2 : Gro 3 1 Hb h2 o2 ((pre ++ ((xs.take I).filter usedN).map N.col).map intD) := by
          rw [htk]
          simp only [List.map_append, List.map_cons, List.map_nil, ← List.append_assoc] at *
          exact hg2
        have hIH := ih I h2 o2 (by omega) (by omega) hg2
        have hs : C X lp14_0 [(1, .ref b 0), (3, o), (16, F), (17, .int .i64 xs.length), (18, .int .i64 i)] h = some (.norm, [(1, .ref b 0), (3, o2), (16, F), (17, .int .i64 xs.length), (18, .int .i64 I)], h2) := by
          have y1 : ∀ (a : Int) h, eltL [.int .i64 a] h = some ([.int .i64 a], h) := fun _ _ => rfl
          have y2 : ∀ a, Wc 1 (.int .i64 a) := fun a => by simp [Wc, DV.cells, DV.one]
          have y3 : ∀ a, Nr (.int .i64 a) := fun a => .int _ _
          have y4 : ∀ (a : Int) h, srcOf h 1 (.list 1 [.int .i64 a] true) = some [.int .i64 a] := fun _ _ => rfl
          have hn : (needsV x.ask == 1) = true ∨ ((needsV x.ask == 1) = false ∧ (needsV x.ask == 2) = true) := by
            unfold usedN at hu
            cases h1 : (needsV x.ask == 1)
            · rw [h1] at hu; exact .inr ⟨rfl, by simpa using hu⟩
            · exact .inl rfl
          generalize ((pre ++ ((xs.take i).filter usedN).map N.col).map intD) = cur at *
          generalize needsV x.ask = nd at *
          clear ih hIH hx hI hg hge hg2 hu htk hfl
          obtain ⟨ask, col, ⟨vk, vn, vs', vt⟩, xa, xb⟩ := x
          simp only [N.d, V.d, DV.cells, intD] at *
          unfold lp14_0
          rcases hn with hn1 | ⟨hn1, hn2⟩
          · (repeat (first | rw [s_assoc] | rw [s_seq_reg (by simp [go_sem, c, z1, hF', hx', hxi, e29, hn1, y1, y2, y3, y4, hw, ha, ldx]; exact ⟨rfl, rfl⟩)] | rw [s_cnd (by simp [lk, keepEnv, Od.v, c, z1, hF', hx', hxi, e29, hn1, y1, y2, y3, y4, hw, ha, ldx]; exact rfl)] | rw [cnd_t] | rw [cnd_f] | rw [s_skip] | rw [s_ret] | rw [s_exit] | rw [C_ret] | rw [C_exit] | rw [C_skip] | rw [blk_ret] | rw [blk_norm] | rw [blk_exit] | rw [blk_exit' (by decide)] | rw [blkT_ret] | rw [blkT_norm] | rw [blkT_exit] | rw [blkT_exit' (by decide)] | rw [s_blk] | rw [s_reg (by simp [go_sem, c, z1, hF', hx', hxi, e29, hn1, y1, y2, y3, y4, hw, ha, ldx]; exact ⟨rfl, rfl⟩)] | rw [t_cnd (by simp [lk, keepEnv, Od.v, c, z1, hF', hx', hxi, e29, hn1, y1, y2, y3, y4, hw, ha, ldx]; exact rfl)] | rw [t_blk]))
            simp [keepEnv, lk]
          · (repeat (first | rw [s_assoc] | rw [s_seq_reg (by simp [go_sem, c, z1, hF', hx', hxi, e29, hn1, hn2, y1, y2, y3, y4, hw, ha, ldx]; exact ⟨rfl, rfl⟩)] | rw [s_cnd (by simp [lk, keepEnv, Od.v, c, z1, hF', hx', hxi, e29, hn1, hn2, y1, y2, y3, y4, hw, ha, ldx]; exact rfl)] | rw [cnd_t] | rw [cnd_f] | rw [s_skip] | rw [s_ret] | rw [s_exit] | rw [C_ret] | rw [C_exit] | rw [C_skip] | rw [blk_ret] | rw [blk_norm] | rw [blk_exit] | rw [blk_exit' (by decide)] | rw [blkT_ret] | rw [blkT_norm] | rw [blkT_exit] | rw [blkT_exit' (by decide)] | rw [s_blk] | rw [s_reg (by simp [go_sem, c, z1, hF', hx', hxi, e29, hn1, hn2, y1, y2, y3, y4, hw, ha, ldx]; exact ⟨rfl, rfl⟩)] | rw [t_cnd (by simp [lk, keepEnv, Od.v, c, z1, hF', hx', hxi, e29, hn1, hn2, y1, y2, y3, y4, hw, ha, ldx]; exact rfl)] | rw [t_blk]))
            simp [keepEnv, lk]
        rw [t_loop, hs, lp_norm]
        exact hIH
    · exact ih i h o (by omega) hi hg
theorem loop14_1 {Hb : Heap} {Ag : DV} {xs : List (Int × Int)} {pre : List Int} (hA : ∀ g, vw g 2 Ag = some (xs.map agD)) (hl : xs.length ≤ 1000) (hpl : pre.length ≤ 3000) :
    ∀ (m i : Nat) (h : Heap) (o : DV), xs.length - i ≤ m → i ≤ xs.length → Gro 3 1 Hb h o ((pre ++ (xs.take i).map (·.2)).map intD) → ∃ ex h' o', C X (.loop lp14_1) [(3, o), (38, Ag), (39, .int .i64 xs.length), (40, .int .i64 i)] h = some (.exit 2, (3, o') :: ex, h') ∧ Gro 3 1 Hb h' o' ((pre ++ xs.map (·.2)).map intD) := by
  intro m
  induction m with
  | zero =>
    intro i h o hm hi hg
    obtain rfl : i = xs.length := by omega
    refine ⟨[(38, Ag), (39, .int .i64 xs.length), (40, .int .i64 xs.length), (41, .bool false)], h, o, ?_, by rw [List.take_length] at hg; exact hg⟩
    rw [t_loop]
    unfold lp14_1
    (repeat (first | rw [s_assoc] | rw [s_seq_reg (by simp [go_sem]; exact ⟨rfl, rfl⟩)] | rw [s_cnd (by simp [lk, keepEnv, Od.v]; exact rfl)] | rw [cnd_t] | rw [cnd_f] | rw [s_skip] | rw [s_ret] | rw [s_exit] | rw [C_ret] | rw [C_exit] | rw [C_skip] | rw [blk_ret] | rw [blk_norm] | rw [blk_exit] | rw [blk_exit' (by decide)] | rw [blkT_ret] | rw [blkT_norm] | rw [blkT_exit] | rw [blkT_exit' (by decide)] | rw [s_blk] | rw [s_reg (by simp [go_sem]; exact ⟨rfl, rfl⟩)] | rw [t_cnd (by simp [lk, keepEnv, Od.v]; exact rfl)] | rw [t_blk]))
    rw [lp_exit]
    simp [keepEnv, lk]
  | succ m ih =>
    intro i h o hm hi hg
    by_cases c : i < xs.length
    · obtain ⟨I, hI⟩ : ∃ I, I = i + 1 := ⟨_, rfl⟩
      have z1 : IntKind.i64.wrap ((i : Int) + 1) = (I : Int) := (by rw [wrap64 _ (by omega) (by omega)]; omega)
      obtain ⟨x, hx⟩ : ∃ x, x = xs[i] := ⟨_, rfl⟩
      have hxi : xs[i]? = some x := by rw [hx]; exact List.getElem?_eq_getElem c
      have hx' := hx.symm
      have hge := hg.ext [.box 51 [.int .i64 x.1, .int .i64 x.2]]
      obtain ⟨o2, h2, ha, hg2⟩ := hge.app 8 [intD x.2] (by simp; omega)
      have hg2 : Gro 3 1 Hb h2 o2 ((pre ++ (xs.take I).map (·.2)).map intD) := by
        have e : (pre ++ (xs.take I).map (·.2)).map intD = (pre ++ (xs.take i).map (·.2)).map intD ++ [intD x.2] := by
          rw [hI, ← List.take_append_getElem c, ← hx]
          simp only [List.map_append, List.map_cons, List.map_nil, List.append_assoc]
        rw [e]
        exact hg2
      have hIH := ih I h2 o2 (by omega) (by omega) hg2
      have hw := hge.vw
      have y1 : ∀ (a : Int) h, eltL [.int .i64 a] h = some ([.int .i64 a], h) := fun _ _ => rfl
      have y2 : ∀ a, Wc 1 (.int .i64 a) := fun a => by simp [Wc, DV.cells, DV.one]
      have y3 : ∀ a, Nr (.int .i64 a) := fun a => .int _ _
      have y4 : ∀ (a : Int) h, srcOf h 1 (.list 1 [.int .i64 a] true) = some [.int .i64 a] := fun _ _ => rfl
      have hs : C X lp14_1 [(3, o), (38, Ag), (39, .int .i64 xs.length), (40, .int .i64 i)] h = some (.norm, [(3, o2), (38, Ag), (39, .int .i64 xs.length), (40, .int .i64 I)], h2) := by
        generalize (pre ++ (xs.take i).map (·.2)).map intD = cur at *
        clear ih hIH hx hI hg hge hg2
        obtain ⟨x1, x2⟩ := x
        simp only [intD, agD] at *
        unfold lp14_1
        (repeat (first | rw [s_assoc] | rw [s_seq_reg (by simp [go_sem, c, z1, hA, hx', hxi, y1, y2, y3, y4, hw, ha, ldx]; exact ⟨rfl, rfl⟩)] | rw [s_cnd (by simp [lk, keepEnv, Od.v, c, z1, hA, hx', hxi, y1, y2, y3, y4, hw, ha, ldx]; exact rfl)] | rw [cnd_t] | rw [cnd_f] | rw [s_skip] | rw [s_ret] | rw [s_exit] | rw [C_ret] | rw [C_exit] | rw [C_skip] | rw [blk_ret] | rw [blk_norm] | rw [blk_exit] | rw [blk_exit' (by decide)] | rw [blkT_ret] | rw [blkT_norm] | rw [blkT_exit] | rw [blkT_exit' (by decide)] | rw [s_blk] | rw [s_reg (by simp [go_sem, c, z1, hA, hx', hxi, y1, y2, y3, y4, hw, ha, ldx]; exact ⟨rfl, rfl⟩)] | rw [t_cnd (by simp [lk, keepEnv, Od.v, c, z1, hA, hx', hxi, y1, y2, y3, y4, hw, ha, ldx]; exact rfl)] | rw [t_blk]))
        simp [keepEnv, lk]
      rw [t_loop, hs, lp_norm]
      exact hIH
    · exact ih i h o (by omega) hi hg
theorem run31 (x : Int) (h : Heap) : E X 31 [intD x] h = some (.bool (decide (x < 0)), h) := by
  by_cases c : x < 0
  · rw [E_go (X := X) _ b31 _ rfl rfl]; unfold b31; (repeat (first | rw [s_assoc] | rw [s_seq_reg (by simp [go_sem, c]; exact ⟨rfl, rfl⟩)] | rw [s_cnd (by simp [lk, keepEnv, Od.v, c]; exact rfl)] | rw [cnd_t] | rw [cnd_f] | rw [s_skip] | rw [s_ret] | rw [s_exit] | rw [C_ret] | rw [C_exit] | rw [C_skip] | rw [blk_ret] | rw [blk_norm] | rw [blk_exit] | rw [blk_exit' (by decide)] | rw [blkT_ret] | rw [blkT_norm] | rw [blkT_exit] | rw [blkT_exit' (by decide)] | rw [s_blk] | rw [s_reg (by simp [go_sem, c]; exact ⟨rfl, rfl⟩)] | rw [t_cnd (by simp [lk, keepEnv, Od.v, c]; exact rfl)] | rw [t_blk])); simp [ends_ret, ends_norm, resL, go_sem, fin, fz0, fz1, fzT, fzL, nlt, c]
  · rw [E_go (X := X) _ b31 _ rfl rfl]; unfold b31; (repeat (first | rw [s_assoc] | rw [s_seq_reg (by simp [go_sem, c]; exact ⟨rfl, rfl⟩)] | rw [s_cnd (by simp [lk, keepEnv, Od.v, c]; exact rfl)] | rw [cnd_t] | rw [cnd_f] | rw [s_skip] | rw [s_ret] | rw [s_exit] | rw [C_ret] | rw [C_exit] | rw [C_skip] | rw [blk_ret] | rw [blk_norm] | rw [blk_exit] | rw [blk_exit' (by decide)] | rw [blkT_ret] | rw [blkT_norm] | rw [blkT_exit] | rw [blkT_exit' (by decide)] | rw [s_blk] | rw [s_reg (by simp [go_sem, c]; exact ⟨rfl, rfl⟩)] | rw [t_cnd (by simp [lk, keepEnv, Od.v, c]; exact rfl)] | rw [t_blk])); simp [ends_ret, ends_norm, resL, go_sem, fin, fz0, fz1, fzT, fzL, nlt, c]
theorem run30z {f : Nat} (h : Heap) (hF : ∀ x h, E X f [intD x] h = some (.bool (decide (x < 0)), h)) : E X 30 [.nils, .func f [] []] h = some (.nils, h) := by
  have e44 := run44 (h := h) (L := .nils) (xs := []) (f := f) (cap := []) (P := fun x => decide (x < 0)) rfl (fun x hx => by cases hx) (by simp)
  rw [show fidx (fun x : Int => decide (x < 0)) [] 0 = -1 from rfl] at e44
  rw [E_go (X := X) _ b30 _ rfl rfl]; unfold b30; (repeat (first | rw [s_assoc] | rw [s_seq_reg (by simp [go_sem, e44]; exact ⟨rfl, rfl⟩)] | rw [s_cnd (by simp [lk, keepEnv, Od.v, e44]; exact rfl)] | rw [cnd_t] | rw [cnd_f] | rw [s_skip] | rw [s_ret] | rw [s_exit] | rw [C_ret] | rw [C_exit] | rw [C_skip] | rw [blk_ret] | rw [blk_norm] | rw [blk_exit] | rw [blk_exit' (by decide)] | rw [blkT_ret] | rw [blkT_norm] | rw [blkT_exit] | rw [blkT_exit' (by decide)] | rw [s_blk] | rw [s_reg (by simp [go_sem, e44]; exact ⟨rfl, rfl⟩)] | rw [t_cnd (by simp [lk, keepEnv, Od.v, e44]; exact rfl)] | rw [t_blk])); simp [ends_ret, ends_norm, resL, go_sem, fin, fz0, fz1, fzT, fzL, nlt, e44]
theorem run33z (h : Heap) : E X 33 [.nils] h = some (.nils, h) := by
  rw [E_go (X := X) _ b33 _ rfl rfl]; unfold b33; (repeat (first | rw [s_assoc] | rw [s_seq_reg (by simp [go_sem, vw]; exact ⟨rfl, rfl⟩)] | rw [s_cnd (by simp [lk, keepEnv, Od.v, vw]; exact rfl)] | rw [cnd_t] | rw [cnd_f] | rw [s_skip] | rw [s_ret] | rw [s_exit] | rw [C_ret] | rw [C_exit] | rw [C_skip] | rw [blk_ret] | rw [blk_norm] | rw [blk_exit] | rw [blk_exit' (by decide)] | rw [blkT_ret] | rw [blkT_norm] | rw [blkT_exit] | rw [blkT_exit' (by decide)] | rw [s_blk] | rw [s_reg (by simp [go_sem, vw]; exact ⟨rfl, rfl⟩)] | rw [t_cnd (by simp [lk, keepEnv, Od.v, vw]; exact rfl)] | rw [t_blk])); simp [ends_ret, ends_norm, resL, go_sem, fin, fz0, fz1, fzT, fzL, nlt, vw]
theorem sort_nil (h : Heap) : E X 32 [.nils] h = some (.tup [], h) := by
  rw [E_ext (X := X) (g := gSortI) h rfl, gSortI]
theorem sort_row {h : Heap} {o g : Nat} {fs zs : List Int} (hr : RowI h o g (fs ++ zs)) (hb : fs.length ≤ 1000000) : E X 32 [.row o g 0 fs.length false] h = some (.tup [], h.set o (.row 3 1 g ((srtI fs ++ zs).map intD))) := by
  rw [E_ext (X := X) (g := gSortI) h rfl, gSortI]
  by_cases h0 : fs.length = 0
  · rw [if_pos h0]
    have : fs = [] := List.eq_nil_of_length_eq_zero h0
    subst this
    have : srtI [] ++ zs = [] ++ zs := by simp [srtI]
    rw [this, hr.self]
  · rw [if_neg h0]
    have hr' := hr
    unfold RowI at hr'
    rw [hr']
    simp only
    rw [if_pos ⟨trivial, trivial, by rw [List.length_map, List.length_append]; omega, by omega⟩]
    have e1 : ((((fs ++ zs).map intD).drop 0).take fs.length) = fs.map intD := by
      rw [List.drop_zero, List.map_append, List.take_append_of_le_length (by rw [List.length_map]; omega), List.take_of_length_le (by rw [List.length_map]; omega)]
    rw [e1, intsOf_map]
    simp only [List.take_zero, List.nil_append, Nat.zero_add]
    rw [List.map_append, List.drop_left' (by simp)]
    simp
def usesL (q : Qry) : List Int := (q.cols ++ q.group) ++ (q.filter.filter usedN).map N.col ++ q.aggs.map (·.2)
def fewV (q : Qry) : List Int := (usesL q).filter fun x => !decide (x < 0)
def usesV (q : Qry) : List Int := cmpT (srtI (fewV q))
def ResI (d : DV) (l : List Int) : Prop := (d = .nils ∧ l = []) ∨ d = .fresh 3 1 (l.map intD) ∨ d = .list 1 (l.map intD) false
/-- What comes of the numbers that were put together. -/
theorem uses_end {H Hb h : Heap} {o : DV} {l : List Int} (hg : Gro 3 1 Hb h o (l.map intD)) (hH : Hb.take H.length = H) (hb : l.length ≤ 1000000) :
    ∃ o4 h4 h5 o6 h6 d, E X 30 [o, .func 31 [] []] h = some (o4, h4) ∧ E X 32 [o4] h4 = some (.tup [], h5) ∧ E X 33 [o4] h5 = some (o6, h6) ∧ ((o4 = .nils ∧ o6 = .nils) ∨ ∃ oo g n n', o4 = .row oo g 0 n false ∧ o6 = .row oo g 0 n' false) ∧ fin H h6 [o6] = (d, H) ∧ ResI d (cmpT (srtI (l.filter fun x => !decide (x < 0)))) := by
  obtain ⟨ht, hr⟩ := hg
  have hHl := take_leG hH
  have hhl := take_leG ht
  rcases hr with ⟨rfl, h1⟩ | ⟨g, oo, rfl, h2, h3⟩
  · have hl : l = [] := by simpa using h1
    subst hl
    refine ⟨_, _, _, _, _, .nils, run30z h (fun x h => run31 x h), sort_nil h, run33z h, .inl ⟨rfl, rfl⟩, ?_, .inl ⟨rfl, by simp [srtI, cmpT]⟩⟩
    have : h.take H.length = H := by
      have h5 : h.take H.length = (h.take Hb.length).take H.length := by rw [List.take_take, Nat.min_eq_left hHl]
      rw [h5, ht, hH]
    simp [fin, this, fz1, fz0]
  · rw [List.length_map]
    have hr3 : RowI h oo g l := h3
    have e1 := run30 (P := fun x => decide (x < 0)) (fun x h => run31 x h) hb hr3
    obtain ⟨fs, hfs⟩ : ∃ fs, fs = l.filter fun x => !decide (x < 0) := ⟨_, rfl⟩
    have hfl : fs.length ≤ 1000000 := by
      have := List.length_filter_le (fun x => !decide (x < 0)) l
      rw [← hfs] at this
      omega
    rw [← hfs] at e1
    have hr4 := hr3.set (fs ++ List.replicate (l.length - fs.length) 0)
    have e2 := sort_row hr4 hfl
    have hsl := srtI_length fs
    have hr5 := hr4.set (srtI fs ++ List.replicate (l.length - fs.length) 0)
    rw [set_set_row] at hr5
    have e3 := run33 hr5 (by omega)
    have hd : delR (fun x => decide (x < 0)) l = fs ++ List.replicate (l.length - fs.length) 0 := by unfold delR; rw [← hfs]
    rw [hd] at e1
    rw [set_set_row] at e2
    rw [hsl, set_set_row] at e3
    have hr6 := hr3.set (cmR (srtI fs) (List.replicate (l.length - fs.length) 0))
    have hcl := cmR_length (srtI fs) (List.replicate (l.length - fs.length) 0)
    have hcle := cmpT_le (srtI fs)
    have htk : (cmR (srtI fs) (List.replicate (l.length - fs.length) 0)).take (cmpT (srtI fs)).length = cmpT (srtI fs) := by
      unfold cmR
      rw [List.append_assoc, List.take_append_of_le_length (Nat.le_refl _), List.take_length]
    have hpre : (h.set oo (.row 3 1 g ((cmR (srtI fs) (List.replicate (l.length - fs.length) 0)).map intD))).take H.length = H := by
      rw [List.take_set_of_le (by omega)]
      have h5 : h.take H.length = (h.take Hb.length).take H.length := by rw [List.take_take, Nat.min_eq_left hHl]
      rw [h5, ht, hH]
    obtain ⟨R, hR⟩ : ∃ R, R = cmR (srtI fs) (List.replicate (l.length - fs.length) 0) := ⟨_, rfl⟩
    rw [← hR] at hr6 hcl htk hpre e3
    rw [← hfs]
    have hfz : fin H (h.set oo (.row 3 1 g (R.map intD))) [.row oo g 0 (cmpT (srtI fs)).length false] = (if (cmpT (srtI fs)).length = R.length then .fresh 3 1 (R.map intD) else if (cmpT (srtI fs)).length = 0 then .fresh 3 1 [] else .list 1 ((R.map intD).take (cmpT (srtI fs)).length) false, H) := by
      have hnl : ¬ oo < H.length := by omega
      have hnr := nr_ints R
      unfold RowI at hr6
      simp only [fin]
      rw [if_pos hpre]
      simp only [fz1, fz0]
      rw [if_neg hnl, hr6]
      simp only
      rw [if_pos ⟨rfl, by rw [List.length_map]; simp only [List.length_replicate] at hcl; omega, hnr⟩]
      simp only [List.length_map, true_and, and_true, List.drop_zero]
      by_cases q1 : (cmpT (srtI fs)).length = R.length
      · simp [q1]
      · by_cases q2 : (cmpT (srtI fs)).length = 0
        · have q3 : ¬ 0 = R.length := by omega
          simp [q1, q2, q3]
        · simp [q1, q2]
    refine ⟨_, _, _, _, _, _, e1, e2, e3, .inr ⟨_, _, _, _, rfl, rfl⟩, hfz, ?_⟩
    by_cases q1 : (cmpT (srtI fs)).length = R.length
    · rw [if_pos q1]
      rw [q1, List.take_length] at htk
      rw [htk]
      exact .inr (.inl rfl)
    · rw [if_neg q1]
      by_cases q2 : (cmpT (srtI fs)).length = 0
      · rw [if_pos q2, List.eq_nil_of_length_eq_zero q2]
        exact .inr (.inl rfl)
      · rw [if_neg q2, ← List.map_take, htk]
        exact .inr (.inr rfl)
set_option maxHeartbeats 2000000 in
theorem run14 {H : Heap} {F Cn Gr Ag So : DV} {q : Qry} (hq : QV H F Cn Gr Ag So q) : ∃ d, E X 14 [.agg (qryC F Cn Gr Ag So q.lim)] H = some (d, H) ∧ ResI d (usesV q) := by
  obtain ⟨H1, hH1⟩ : ∃ H1, H1 = H ++ [HO.box 30 (qryC F Cn Gr Ag So q.lim)] := ⟨_, rfl⟩
  have hq1 : QV H1 F Cn Gr Ag So q := by rw [hH1]; exact hq.ext _
  have hb1 : ∀ G, (H1 ++ G)[H.length]? = some (.box 30 (qryC F Cn Gr Ag So q.lim)) := fun G => by rw [hH1, List.append_assoc]; simp
  have ht1 : H1.take H.length = H := by rw [hH1, List.take_append_of_le_length (Nat.le_refl _)]; exact List.take_length
  have hbH : H1[H.length]? = some (.box 30 (qryC F Cn Gr Ag So q.lim)) := by rw [hH1]; simp
  have e22 := fun g => run22 hq.c hq.g hq.nc hq.ng g
  have y1 := fun g => hq.c.elt hq.g g
  have y2 := hq.c.wc
  have y3 := hq.g.wc
  have y4 := hq.c.nr
  have y5 := hq.g.nr
  have v1 := hq1.f
  have v4 := hq.a
  have hnf := hq.nf
  have hnc := hq.nc
  have hng := hq.ng
  have hna := hq.na
  obtain ⟨l, hll⟩ : ∃ l, l = q.cols ++ q.group := ⟨_, rfl⟩
  have hlen : l.length ≤ 2000 := by rw [hll, List.length_append]; omega
  rw [← hll] at e22
  have hfl : ((q.filter.filter usedN).map N.col).length ≤ 1000 := by
    have := List.length_filter_le usedN q.filter
    rw [List.length_map]; omega
  have hv1 : vw H1 8 F = some (q.filter.map N.d) := by have := v1 []; rwa [List.append_nil] at this
  have hgen : ∀ (o : DV) (h1 : Heap), Gro 3 1 H1 h1 o (l.map intD) → ∃ ex h2 o2 ex3 h3 o3 o4 h4 h5 o6 h6 d, C X (.loop lp14_0) [(1, .ref H.length 0), (3, o), (16, F), (17, .int .i64 q.filter.length), (18, .int .i64 0)] h1 = some (.exit 0, (1, .ref H.length 0) :: (3, o2) :: ex, h2) ∧ h2[H.length]? = some (.box 30 (qryC F Cn Gr Ag So q.lim)) ∧
      C X (.loop lp14_1) [(3, o2), (38, Ag), (39, .int .i64 q.aggs.length), (40, .int .i64 0)] h2 = some (.exit 2, (3, o3) :: ex3, h3) ∧ E X 30 [o3, .func 31 [] []] h3 = some (o4, h4) ∧ E X 32 [o4] h4 = some (.tup [], h5) ∧ E X 33 [o4] h5 = some (o6, h6) ∧ ((o4 = .nils ∧ o6 = .nils) ∨ ∃ oo g n n', o4 = .row oo g 0 n false ∧ o6 = .row oo g 0 n' false) ∧ fin H h6 [o6] = (d, H) ∧ ResI d (usesV q) := by
    intro o h1 hg1
    obtain ⟨ex, h2, o2, hc, g2⟩ := loop14_0 (b := H.length) (pre := l) hv1 hnf hlen q.filter.length 0 h1 o (by omega) (by omega) (by rw [show l ++ ((q.filter.take 0).filter usedN).map N.col = l by simp]; exact hg1)
    obtain ⟨ex3, h3, o3, hc3, g3⟩ := loop14_1 (pre := l ++ (q.filter.filter usedN).map N.col) v4 hna (by rw [List.length_append]; omega) q.aggs.length 0 h2 o2 (by omega) (by omega) (by rw [show (l ++ (q.filter.filter usedN).map N.col) ++ (q.aggs.take 0).map (·.2) = l ++ (q.filter.filter usedN).map N.col by simp]; exact g2)
    rw [show ((0 : Nat) : Int) = 0 from rfl] at hc hc3
    obtain ⟨o4, h4, h5, o6, h6, d, a1, a2, a3, a4, a6, a7⟩ := uses_end (H := H) g3 ht1 (by simp only [List.length_append, List.length_map] at *; omega)
    exact ⟨ex, h2, o2, ex3, h3, o3, o4, h4, h5, o6, h6, d, hc, pre_get g2.1 hbH, hc3, a1, a2, a3, a4, a6, by unfold usesV fewV usesL; rw [← hll]; exact a7⟩
  by_cases hl0 : l = []
  · have hcon : conD l = .nils := by rw [hl0]; rfl
    rw [hcon] at e22
    obtain ⟨ex, h2, o2, ex3, h3, o3, o4, h4, h5, o6, h6, d, hc, hb2, hc3, a1, a2, a3, a4, a6, a7⟩ := hgen .nils H1 (by rw [hl0]; exact Gro.zero)
    refine ⟨d, ?_, a7⟩
    clear hgen hll a7 hfl hnf hnc hng hna ht1 hq1 hq hv1 hbH
    subst hH1
    generalize usesV q = us at *
    obtain ⟨fl, co, gr, ag, so, lim⟩ := q
    simp only [qryC, List.append_nil, List.append_assoc, List.cons_append, List.nil_append, List.length_append, List.length_cons, List.length_nil, Nat.zero_add, Nat.reduceAdd] at *
    rw [E_go (X := X) _ b14 _ rfl rfl]; unfold b14
    (repeat (first | rw [s_assoc] | rw [s_seq_reg (by simp [go_sem, e22, y1, y2, y3, y4, y5, v1]; exact ⟨rfl, rfl⟩)] | rw [s_cnd (by simp [lk, keepEnv, Od.v, e22, y1, y2, y3, y4, y5, v1]; exact rfl)] | rw [cnd_t] | rw [cnd_f] | rw [s_skip] | rw [s_ret] | rw [s_exit] | rw [C_ret] | rw [C_exit] | rw [C_skip] | rw [blk_ret] | rw [blk_norm] | rw [blk_exit] | rw [blk_exit' (by decide)] | rw [blkT_ret] | rw [blkT_norm] | rw [blkT_exit] | rw [blkT_exit' (by decide)] | rw [s_blk] | rw [s_reg (by simp [go_sem, e22, y1, y2, y3, y4, y5, v1]; exact ⟨rfl, rfl⟩)] | rw [t_cnd (by simp [lk, keepEnv, Od.v, e22, y1, y2, y3, y4, y5, v1]; exact rfl)] | rw [t_blk]))
    (try simp only [keepEnv, List.map_cons, List.map_nil, lk, reduceIte, Nat.reduceEqDiff, Nat.zero_ne_one, Nat.one_ne_zero])
    rw [hc]
    (repeat (first | rw [s_assoc] | rw [s_seq_reg (by simp [go_sem, hb2, v4]; exact ⟨rfl, rfl⟩)] | rw [s_cnd (by simp [lk, keepEnv, Od.v, hb2, v4]; exact rfl)] | rw [cnd_t] | rw [cnd_f] | rw [s_skip] | rw [s_ret] | rw [s_exit] | rw [C_ret] | rw [C_exit] | rw [C_skip] | rw [blk_ret] | rw [blk_norm] | rw [blk_exit] | rw [blk_exit' (by decide)] | rw [blkT_ret] | rw [blkT_norm] | rw [blkT_exit] | rw [blkT_exit' (by decide)] | rw [s_blk] | rw [s_reg (by simp [go_sem, hb2, v4]; exact ⟨rfl, rfl⟩)] | rw [t_cnd (by simp [lk, keepEnv, Od.v, hb2, v4]; exact rfl)] | rw [t_blk]))
    (try simp only [keepEnv, List.map_cons, List.map_nil, lk, reduceIte, Nat.reduceEqDiff, Nat.zero_ne_one, Nat.one_ne_zero])
    rw [hc3]
    rcases a4 with ⟨rfl, rfl⟩ | ⟨oo, g, n, n', rfl, rfl⟩
    all_goals
      (repeat (first | rw [s_assoc] | rw [s_seq_reg (by simp [go_sem, a1, a2, a3]; exact ⟨rfl, rfl⟩)] | rw [s_cnd (by simp [lk, keepEnv, Od.v, a1, a2, a3]; exact rfl)] | rw [cnd_t] | rw [cnd_f] | rw [s_skip] | rw [s_ret] | rw [s_exit] | rw [C_ret] | rw [C_exit] | rw [C_skip] | rw [blk_ret] | rw [blk_norm] | rw [blk_exit] | rw [blk_exit' (by decide)] | rw [blkT_ret] | rw [blkT_norm] | rw [blkT_exit] | rw [blkT_exit' (by decide)] | rw [s_blk] | rw [s_reg (by simp [go_sem, a1, a2, a3]; exact ⟨rfl, rfl⟩)] | rw [t_cnd (by simp [lk, keepEnv, Od.v, a1, a2, a3]; exact rfl)] | rw [t_blk]))
      rw [ends_ret]
      simp [resL, lk, keepEnv, a6]
  · have hcon : conD l = .fresh 3 1 (l.map intD) := by unfold conD; rw [if_neg hl0]
    rw [hcon] at e22
    obtain ⟨ex, h2, o2, ex3, h3, o3, o4, h4, h5, o6, h6, d, hc, hb2, hc3, a1, a2, a3, a4, a6, a7⟩ := hgen (.row H1.length 0 0 l.length false) (H1 ++ [HO.row 3 1 0 (l.map intD)]) ⟨by rw [List.take_append_of_le_length (Nat.le_refl _)]; exact List.take_length, .inr ⟨0, H1.length, by simp, Nat.le_refl _, by simp⟩⟩
    refine ⟨d, ?_, a7⟩
    have hmap : (l.map intD).length = l.length := by simp
    clear hgen hll a7 hfl hnf hnc hng hna ht1 hq1 hq hv1 hbH
    subst hH1
    generalize usesV q = us at *
    obtain ⟨fl, co, gr, ag, so, lim⟩ := q
    simp only [qryC, List.append_nil, List.append_assoc, List.cons_append, List.nil_append, List.length_append, List.length_cons, List.length_nil, Nat.zero_add, Nat.reduceAdd] at *
    rw [E_go (X := X) _ b14 _ rfl rfl]; unfold b14
    (repeat (first | rw [s_assoc] | rw [s_seq_reg (by simp [go_sem, e22, y1, y2, y3, y4, y5, v1, hmap]; exact ⟨rfl, rfl⟩)] | rw [s_cnd (by simp [lk, keepEnv, Od.v, e22, y1, y2, y3, y4, y5, v1, hmap]; exact rfl)] | rw [cnd_t] | rw [cnd_f] | rw [s_skip] | rw [s_ret] | rw [s_exit] | rw [C_ret] | rw [C_exit] | rw [C_skip] | rw [blk_ret] | rw [blk_norm] | rw [blk_exit] | rw [blk_exit' (by decide)] | rw [blkT_ret] | rw [blkT_norm] | rw [blkT_exit] | rw [blkT_exit' (by decide)] | rw [s_blk] | rw [s_reg (by simp [go_sem, e22, y1, y2, y3, y4, y5, v1, hmap]; exact ⟨rfl, rfl⟩)] | rw [t_cnd (by simp [lk, keepEnv, Od.v, e22, y1, y2, y3, y4, y5, v1, hmap]; exact rfl)] | rw [t_blk]))
    (try simp only [keepEnv, List.map_cons, List.map_nil, lk, reduceIte, Nat.reduceEqDiff, Nat.zero_ne_one, Nat.one_ne_zero])
    rw [hc]
    (repeat (first | rw [s_assoc] | rw [s_seq_reg (by simp [go_sem, hb2, v4]; exact ⟨rfl, rfl⟩)] | rw [s_cnd (by simp [lk, keepEnv, Od.v, hb2, v4]; exact rfl)] | rw [cnd_t] | rw [cnd_f] | rw [s_skip] | rw [s_ret] | rw [s_exit] | rw [C_ret] | rw [C_exit] | rw [C_skip] | rw [blk_ret] | rw [blk_norm] | rw [blk_exit] | rw [blk_exit' (by decide)] | rw [blkT_ret] | rw [blkT_norm] | rw [blkT_exit] | rw [blkT_exit' (by decide)] | rw [s_blk] | rw [s_reg (by simp [go_sem, hb2, v4]; exact ⟨rfl, rfl⟩)] | rw [t_cnd (by simp [lk, keepEnv, Od.v, hb2, v4]; exact rfl)] | rw [t_blk]))
    (try simp only [keepEnv, List.map_cons, List.map_nil, lk, reduceIte, Nat.reduceEqDiff, Nat.zero_ne_one, Nat.one_ne_zero])
    rw [hc3]
    rcases a4 with ⟨rfl, rfl⟩ | ⟨oo, g, n, n', rfl, rfl⟩
    all_goals
      (repeat (first | rw [s_assoc] | rw [s_seq_reg (by simp [go_sem, a1, a2, a3]; exact ⟨rfl, rfl⟩)] | rw [s_cnd (by simp [lk, keepEnv, Od.v, a1, a2, a3]; exact rfl)] | rw [cnd_t] | rw [cnd_f] | rw [s_skip] | rw [s_ret] | rw [s_exit] | rw [C_ret] | rw [C_exit] | rw [C_skip] | rw [blk_ret] | rw [blk_norm] | rw [blk_exit] | rw [blk_exit' (by decide)] | rw [blkT_ret] | rw [blkT_norm] | rw [blkT_exit] | rw [blkT_exit' (by decide)] | rw [s_blk] | rw [s_reg (by simp [go_sem, a1, a2, a3]; exact ⟨rfl, rfl⟩)] | rw [t_cnd (by simp [lk, keepEnv, Od.v, a1, a2, a3]; exact rfl)] | rw [t_blk]))
      rw [ends_ret]
      simp [resL, lk, keepEnv, a6]
end Go.Proofs.YtobpbjmnonbblaaDoor
