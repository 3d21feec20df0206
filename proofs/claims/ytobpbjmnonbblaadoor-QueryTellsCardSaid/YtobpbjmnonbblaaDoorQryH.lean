/- Ideal runs: query.Outs. -/
import Derived.Test.YtobpbjmnonbblaaDoorQryG
namespace Go.Proofs.YtobpbjmnonbblaaDoor
attribute [local go_sem] evOps evOp_n evOp_r evOp_d evOp_dr kpo_refl kpo_app cnd_some cnd_pair cnd_cnd_t cnd_cnd_f cnd_same cnd_dvb cnd_and cnd_or gd_bool gd_boolf gd_tup cnd_t cnd_f evTo isCall evx put lk Od.v keepEnv enterEnv ldx_ref rdc binx binI binS unx eqk DV.isU DV.cells hget hget0 hset hset0 stx_ref splice fillp mat eqcs eqs one_bool one_int one_str one_nilp one_ref one_elem one_nils one_list one_row one_nilm one_map one_nilf one_func one_nili one_ifc one_agg one_tup one_undef one_fresh
attribute [local go_sem ↓] evx_pick
set_option linter.unusedVariables false
set_option linter.unusedSimpArgs false
set_option maxRecDepth 10000
def kindV (s : Sch) (k : Int) : Int := match getI s.cols k with
  | some c => c.kd
  | none => 0
def aggK (s : Sch) (x : Int × Int) : Int := if x.1 = 3 ∨ x.1 = 4 then kindV s x.2 else 1
theorem pre_get {H h : Heap} (ht : h.take H.length = H) {o : Nat} {x : HO} (hx : H[o]? = some x) : h[o]? = some x := by
  have hlt := (List.getElem?_eq_some_iff.1 hx).1
  have : (h.take H.length)[o]? = some x := by rw [ht]; exact hx
  rw [List.getElem?_take, if_pos hlt] at this
  exact this
theorem pre_vw {H h : Heap} (ht : h.take H.length = H) {sz : Nat} {d : DV} {xs : List DV} (hv : vw H sz d = some xs) : vw h sz d = some xs := by
  have := List.take_append_drop H.length h
  rw [ht] at this
  rw [← this]
  exact vw_grow hv
theorem loop11 {Hb : Heap} {Cd Lq : DV} {s : Sch} {b b2 : Nat} {ks : List Int} (hC : ∀ g, vw g 3 Cd = some (s.cols.map Cl.d)) (hb : Hb[b]? = some (.box 24 (schC Cd s))) (hL : vw Hb 1 Lq = some (ks.map intD)) (hl : ks.length ≤ 2000) (hk : ∀ k ∈ ks, hasV s k = true) :
    ∀ (m i : Nat) (h : Heap) (o : DV), ks.length - i ≤ m → i ≤ ks.length → Gro 3 1 Hb h o (((ks.take i).map (kindV s)).map intD) → (i = 0 → o = .nils) → ∃ ex h' o', C X (.loop lp11_0) [(2, .ref b 0), (3, .ref b2 0), (5, o), (20, Lq), (21, .int .i64 ks.length), (22, .int .i64 i)] h = some (.exit 0, (2, .ref b 0) :: (3, .ref b2 0) :: (5, o') :: ex, h') ∧ Gro 3 1 Hb h' o' ((ks.map (kindV s)).map intD) ∧ (ks = [] → o' = .nils) := by
  intro m
  induction m with
  | zero =>
    intro i h o hm hi hg h0
    obtain rfl : i = ks.length := by omega
    refine ⟨[(20, Lq), (21, .int .i64 ks.length), (22, .int .i64 ks.length), (23, .bool false)], h, o, ?_, by rw [List.take_length] at hg; exact hg, fun h1 => h0 (by rw [h1]; rfl)⟩
    rw [t_loop]
    unfold lp11_0
    (repeat (first | rw [s_assoc] | rw [s_seq_reg (by simp [go_sem]; exact ⟨rfl, rfl⟩)] | rw [s_cnd (by simp [lk, keepEnv, Od.v]; exact rfl)] | rw [cnd_t] | rw [cnd_f] | rw [s_skip] | rw [s_ret] | rw [s_exit] | rw [C_ret] | rw [C_exit] | rw [C_skip] | rw [blk_ret] | rw [blk_norm] | rw [blk_exit] | rw [blk_exit' (by decide)] | rw [blkT_ret] | rw [blkT_norm] | rw [blkT_exit] | rw [blkT_exit' (by decide)] | rw [s_blk] | rw [s_reg (by simp [go_sem]; exact ⟨rfl, rfl⟩)] | rw [t_cnd (by simp [lk, keepEnv, Od.v]; exact rfl)] | rw [t_blk]))
    rw [lp_exit]
    simp [keepEnv, lk]
  | succ m ih =>
    intro i h o hm hi hg h0
    by_cases c : i < ks.length
    · obtain ⟨I, hI⟩ : ∃ I, I = i + 1 := ⟨_, rfl⟩
      have z1 : IntKind.i64.wrap ((i : Int) + 1) = (I : Int) := (by rw [wrap64 _ (by omega) (by omega)]; omega)
      obtain ⟨x, hx⟩ : ∃ x, x = ks[i] := ⟨_, rfl⟩
      have hxi : ks[i]? = some x := by rw [hx]; exact List.getElem?_eq_getElem c
      have hx' := hx.symm
      have hhx := hk x (by rw [hx]; exact List.getElem_mem c)
      obtain ⟨o2, h2, ha, hg2⟩ := hg.app 8 [intD (kindV s x)] (by simp; omega)
      have hg2 : Gro 3 1 Hb h2 o2 (((ks.take I).map (kindV s)).map intD) := by
        rw [hI, ← List.take_append_getElem c, ← hx, List.map_append, List.map_append]
        exact hg2
      have hIH := ih I h2 o2 (by omega) (by omega) hg2 (by omega)
      have hb' := pre_get hg.1 hb
      have hL' := pre_vw hg.1 hL
      have hw := hg.vw
      have hs : C X lp11_0 [(2, .ref b 0), (3, .ref b2 0), (5, o), (20, Lq), (21, .int .i64 ks.length), (22, .int .i64 i)] h = some (.norm, [(2, .ref b 0), (3, .ref b2 0), (5, o2), (20, Lq), (21, .int .i64 ks.length), (22, .int .i64 I)], h2) := by
        cases hgg : getI s.cols x with
        | none => rw [has_none hgg] at hhx; cases hhx
        | some cl =>
          obtain ⟨_, p, rfl, hp, pl, hpe⟩ := has_some hgg
          have hkv : kindV s (p : Int) = cl.kd := by unfold kindV; rw [hgg]
          rw [hkv] at ha
          have y1 : ∀ (a : Int) h, eltL [.int .i64 a] h = some ([.int .i64 a], h) := fun _ _ => rfl
          have y2 : ∀ a, Wc 1 (.int .i64 a) := fun a => by simp [Wc, DV.cells, DV.one]
          have y3 : ∀ a, Nr (.int .i64 a) := fun a => .int _ _
          have y4 : ∀ (a : Int) h, srcOf h 1 (.list 1 [.int .i64 a] true) = some [.int .i64 a] := fun _ _ => rfl
          generalize ((ks.take i).map (kindV s)).map intD = cur at *
          clear ih hIH hx hI hg hg2 hhx hgg hkv hk
          obtain ⟨cols, k1, k2, k3, k4⟩ := s
          obtain ⟨cn, ck, cl⟩ := cl
          simp only [schD, schC, Cl.d, intD] at *
          have pl : p < cols.length := pl
          unfold lp11_0
          (repeat (first | rw [s_assoc] | rw [s_seq_reg (by simp [go_sem, c, z1, hL', hb', hx', hxi, hC, hp, pl, hpe, y1, y2, y3, y4, hw, ha, ldx]; exact ⟨rfl, rfl⟩)] | rw [s_cnd (by simp [lk, keepEnv, Od.v, c, z1, hL', hb', hx', hxi, hC, hp, pl, hpe, y1, y2, y3, y4, hw, ha, ldx]; exact rfl)] | rw [cnd_t] | rw [cnd_f] | rw [s_skip] | rw [s_ret] | rw [s_exit] | rw [C_ret] | rw [C_exit] | rw [C_skip] | rw [blk_ret] | rw [blk_norm] | rw [blk_exit] | rw [blk_exit' (by decide)] | rw [blkT_ret] | rw [blkT_norm] | rw [blkT_exit] | rw [blkT_exit' (by decide)] | rw [s_blk] | rw [s_reg (by simp [go_sem, c, z1, hL', hb', hx', hxi, hC, hp, pl, hpe, y1, y2, y3, y4, hw, ha, ldx]; exact ⟨rfl, rfl⟩)] | rw [t_cnd (by simp [lk, keepEnv, Od.v, c, z1, hL', hb', hx', hxi, hC, hp, pl, hpe, y1, y2, y3, y4, hw, ha, ldx]; exact rfl)] | rw [t_blk]))
          simp [keepEnv, lk]
      rw [t_loop, hs, lp_norm]
      exact hIH
    · exact ih i h o (by omega) hi hg h0
theorem loop11_1 {Hb : Heap} {Cd Ag : DV} {s : Sch} {b : Nat} {xs : List (Int × Int)} {pre : List Int} (hC : ∀ g, vw g 3 Cd = some (s.cols.map Cl.d)) (hb : Hb[b]? = some (.box 24 (schC Cd s))) (hA : ∀ g, vw g 2 Ag = some (xs.map agD)) (hl : xs.length ≤ 1000) (hpl : pre.length ≤ 2000) (hk : ∀ x ∈ xs, x.1 = 3 ∨ x.1 = 4 → hasV s x.2 = true) :
    ∀ (m i : Nat) (h : Heap) (o : DV), xs.length - i ≤ m → i ≤ xs.length → Gro 3 1 Hb h o ((pre ++ (xs.take i).map (aggK s)).map intD) → (pre = [] → i = 0 → o = .nils) → ∃ ex h' o', C X (.loop lp11_1) [(2, .ref b 0), (5, o), (37, Ag), (38, .int .i64 xs.length), (39, .int .i64 i)] h = some (.exit 2, (2, .ref b 0) :: (5, o') :: ex, h') ∧ Gro 3 1 Hb h' o' ((pre ++ xs.map (aggK s)).map intD) ∧ (pre = [] → xs = [] → o' = .nils) := by
  intro m
  induction m with
  | zero =>
    intro i h o hm hi hg h0
    obtain rfl : i = xs.length := by omega
    refine ⟨[(37, Ag), (38, .int .i64 xs.length), (39, .int .i64 xs.length), (40, .bool false)], h, o, ?_, by rw [List.take_length] at hg; exact hg, fun h1 h2 => h0 h1 (by rw [h2]; rfl)⟩
    rw [t_loop]
    unfold lp11_1
    (repeat (first | rw [s_assoc] | rw [s_seq_reg (by simp [go_sem]; exact ⟨rfl, rfl⟩)] | rw [s_cnd (by simp [lk, keepEnv, Od.v]; exact rfl)] | rw [cnd_t] | rw [cnd_f] | rw [s_skip] | rw [s_ret] | rw [s_exit] | rw [C_ret] | rw [C_exit] | rw [C_skip] | rw [blk_ret] | rw [blk_norm] | rw [blk_exit] | rw [blk_exit' (by decide)] | rw [blkT_ret] | rw [blkT_norm] | rw [blkT_exit] | rw [blkT_exit' (by decide)] | rw [s_blk] | rw [s_reg (by simp [go_sem]; exact ⟨rfl, rfl⟩)] | rw [t_cnd (by simp [lk, keepEnv, Od.v]; exact rfl)] | rw [t_blk]))
    rw [lp_exit]
    simp [keepEnv, lk]
  | succ m ih =>
    intro i h o hm hi hg h0
    by_cases c : i < xs.length
    · obtain ⟨I, hI⟩ : ∃ I, I = i + 1 := ⟨_, rfl⟩
      have z1 : IntKind.i64.wrap ((i : Int) + 1) = (I : Int) := (by rw [wrap64 _ (by omega) (by omega)]; omega)
      obtain ⟨x, hx⟩ : ∃ x, x = xs[i] := ⟨_, rfl⟩
      have hxi : xs[i]? = some x := by rw [hx]; exact List.getElem?_eq_getElem c
      have hx' := hx.symm
      have hhx := hk x (by rw [hx]; exact List.getElem_mem c)
      have hge := hg.ext [.box 51 [.int .i64 x.1, .int .i64 x.2]]
      obtain ⟨o2, h2, ha, hg2⟩ := hge.app 8 [intD (aggK s x)] (by simp; omega)
      have hg2 : Gro 3 1 Hb h2 o2 ((pre ++ (xs.take I).map (aggK s)).map intD) := by
        have e : (pre ++ (xs.take I).map (aggK s)).map intD = (pre ++ (xs.take i).map (aggK s)).map intD ++ [intD (aggK s x)] := by
          rw [hI, ← List.take_append_getElem c, ← hx]
          simp only [List.map_append, List.map_cons, List.map_nil, List.append_assoc]
        rw [e]
        exact hg2
      have hIH := ih I h2 o2 (by omega) (by omega) hg2 (by omega)
      have hb' := pre_get hg.1 hb
      have hbe := pre_get hge.1 hb
      have hw := hge.vw
      have y1 : ∀ (a : Int) h, eltL [.int .i64 a] h = some ([.int .i64 a], h) := fun _ _ => rfl
      have y2 : ∀ a, Wc 1 (.int .i64 a) := fun a => by simp [Wc, DV.cells, DV.one]
      have y3 : ∀ a, Nr (.int .i64 a) := fun a => .int _ _
      have y4 : ∀ (a : Int) h, srcOf h 1 (.list 1 [.int .i64 a] true) = some [.int .i64 a] := fun _ _ => rfl
      have hs : C X lp11_1 [(2, .ref b 0), (5, o), (37, Ag), (38, .int .i64 xs.length), (39, .int .i64 i)] h = some (.norm, [(2, .ref b 0), (5, o2), (37, Ag), (38, .int .i64 xs.length), (39, .int .i64 I)], h2) := by
        generalize (pre ++ (xs.take i).map (aggK s)).map intD = cur at *
        by_cases c3 : x.1 = 3 ∨ x.1 = 4
        · have hhx := hhx c3
          cases hgg : getI s.cols x.2 with
          | none => rw [has_none hgg] at hhx; cases hhx
          | some cl =>
            obtain ⟨_, p, hpp, hp, pl, hpe⟩ := has_some hgg
            have hkv : aggK s x = cl.kd := by unfold aggK; rw [if_pos c3]; unfold kindV; rw [hgg]
            rw [hkv] at ha
            clear ih hIH hx hI hg hge hg2 hhx hgg hkv hk
            obtain ⟨cols, k1, k2, k3, k4⟩ := s
            obtain ⟨cn, ck, cl⟩ := cl
            obtain ⟨x1, x2⟩ := x
            simp only [schD, schC, Cl.d, intD, agD] at *
            subst hpp
            have pl : p < cols.length := pl
            unfold lp11_1
            rcases c3 with rfl | rfl
            · (repeat (first | rw [s_assoc] | rw [s_seq_reg (by simp [go_sem, c, z1, hA, hb', hbe, hx', hxi, hC, hp, pl, hpe, y1, y2, y3, y4, hw, ha, ldx]; exact ⟨rfl, rfl⟩)] | rw [s_cnd (by simp [lk, keepEnv, Od.v, c, z1, hA, hb', hbe, hx', hxi, hC, hp, pl, hpe, y1, y2, y3, y4, hw, ha, ldx]; exact rfl)] | rw [cnd_t] | rw [cnd_f] | rw [s_skip] | rw [s_ret] | rw [s_exit] | rw [C_ret] | rw [C_exit] | rw [C_skip] | rw [blk_ret] | rw [blk_norm] | rw [blk_exit] | rw [blk_exit' (by decide)] | rw [blkT_ret] | rw [blkT_norm] | rw [blkT_exit] | rw [blkT_exit' (by decide)] | rw [s_blk] | rw [s_reg (by simp [go_sem, c, z1, hA, hb', hbe, hx', hxi, hC, hp, pl, hpe, y1, y2, y3, y4, hw, ha, ldx]; exact ⟨rfl, rfl⟩)] | rw [t_cnd (by simp [lk, keepEnv, Od.v, c, z1, hA, hb', hbe, hx', hxi, hC, hp, pl, hpe, y1, y2, y3, y4, hw, ha, ldx]; exact rfl)] | rw [t_blk]))
              simp [keepEnv, lk]
            · (repeat (first | rw [s_assoc] | rw [s_seq_reg (by simp [go_sem, c, z1, hA, hb', hbe, hx', hxi, hC, hp, pl, hpe, y1, y2, y3, y4, hw, ha, ldx]; exact ⟨rfl, rfl⟩)] | rw [s_cnd (by simp [lk, keepEnv, Od.v, c, z1, hA, hb', hbe, hx', hxi, hC, hp, pl, hpe, y1, y2, y3, y4, hw, ha, ldx]; exact rfl)] | rw [cnd_t] | rw [cnd_f] | rw [s_skip] | rw [s_ret] | rw [s_exit] | rw [C_ret] | rw [C_exit] | rw [C_skip] | rw [blk_ret] | rw [blk_norm] | rw [blk_exit] | rw [blk_exit' (by decide)] | rw [blkT_ret] | rw [blkT_norm] | rw [blkT_exit] | rw [blkT_exit' (by decide)] | rw [s_blk] | rw [s_reg (by simp [go_sem, c, z1, hA, hb', hbe, hx', hxi, hC, hp, pl, hpe, y1, y2, y3, y4, hw, ha, ldx]; exact ⟨rfl, rfl⟩)] | rw [t_cnd (by simp [lk, keepEnv, Od.v, c, z1, hA, hb', hbe, hx', hxi, hC, hp, pl, hpe, y1, y2, y3, y4, hw, ha, ldx]; exact rfl)] | rw [t_blk]))
              simp [keepEnv, lk]
        · have hkv : aggK s x = 1 := by unfold aggK; rw [if_neg c3]
          rw [hkv] at ha
          have d3 : (x.1 == 3) = false := by simp; omega
          have d4 : (x.1 == 4) = false := by simp; omega
          clear ih hIH hx hI hg hge hg2 hhx hkv hk c3
          obtain ⟨cols, k1, k2, k3, k4⟩ := s
          obtain ⟨x1, x2⟩ := x
          simp only [schD, schC, Cl.d, intD, agD] at *
          unfold lp11_1
          (repeat (first | rw [s_assoc] | rw [s_seq_reg (by simp [go_sem, c, z1, hA, hb', hbe, hx', hxi, d3, d4, y1, y2, y3, y4, hw, ha, ldx]; exact ⟨rfl, rfl⟩)] | rw [s_cnd (by simp [lk, keepEnv, Od.v, c, z1, hA, hb', hbe, hx', hxi, d3, d4, y1, y2, y3, y4, hw, ha, ldx]; exact rfl)] | rw [cnd_t] | rw [cnd_f] | rw [s_skip] | rw [s_ret] | rw [s_exit] | rw [C_ret] | rw [C_exit] | rw [C_skip] | rw [blk_ret] | rw [blk_norm] | rw [blk_exit] | rw [blk_exit' (by decide)] | rw [blkT_ret] | rw [blkT_norm] | rw [blkT_exit] | rw [blkT_exit' (by decide)] | rw [s_blk] | rw [s_reg (by simp [go_sem, c, z1, hA, hb', hbe, hx', hxi, d3, d4, y1, y2, y3, y4, hw, ha, ldx]; exact ⟨rfl, rfl⟩)] | rw [t_cnd (by simp [lk, keepEnv, Od.v, c, z1, hA, hb', hbe, hx', hxi, d3, d4, y1, y2, y3, y4, hw, ha, ldx]; exact rfl)] | rw [t_blk]))
          simp [keepEnv, lk]
      rw [t_loop, hs, lp_norm]
      exact hIH
    · exact ih i h o (by omega) hi hg h0
def outsV (s : Sch) (q : Qry) : List Int := if checkV s q ≠ 0 then [] else (q.cols ++ q.group).map (kindV s) ++ q.aggs.map (aggK s)
theorem aggsV_zero {s : Sch} : ∀ {l : List (Int × Int)}, aggsV s l = 0 → ∀ x ∈ l, aggV s x = 0
  | [], _, x, hx => by cases hx
  | y :: l, h, x, hx => by
    rw [aggsV] at h
    split at h
    · rename_i h0
      rcases List.mem_cons.1 hx with rfl | hx
      · exact h0
      · exact aggsV_zero h x hx
    · rename_i h0; exact absurd h h0
/-- What a query that may be asked has. -/
theorem check_zero {s : Sch} {q : Qry} (h : checkV s q = 0) : smayV s = true ∧ longV q = false ∧ filtV s q.filter 0 = 0 ∧ (∀ k ∈ q.cols ++ q.group, hasV s k = true) ∧ aggsV s q.aggs = 0 ∧ decide (0 < q.group.length + q.aggs.length) ≠ decide (0 < q.cols.length) ∧ q.sort.any (fun x => decide (x.1 < 0) || decide ((outsN q : Int) ≤ x.1)) = false := by
  unfold checkV at h
  split at h
  · omega
  split at h
  · omega
  split at h
  · rename_i h3; exact absurd h h3
  split at h
  · omega
  split at h
  · rename_i h5; exact absurd h h5
  split at h
  · omega
  split at h
  · omega
  rename_i h1 h2 h3 h4 h5 h6 h7
  refine ⟨by simpa using h1, by simpa using h2, by simpa using h3, fun k hk => ?_, by simpa using h5, h6, Bool.eq_false_iff.2 h7⟩
  cases hh : hasV s k with
  | true => rfl
  | false =>
    exfalso
    apply h4
    rw [List.any_eq_true]
    exact ⟨k, hk, by rw [hh]; rfl⟩
theorem agg_has {s : Sch} {x : Int × Int} (h : aggV s x = 0) (hx : x.1 = 3 ∨ x.1 = 4) : hasV s x.2 = true := by
  unfold aggV at h
  rw [if_neg (by omega), if_neg (by omega)] at h
  cases hg : getI s.cols x.2 with
  | none => rw [hg] at h; simp at h
  | some c => exact (has_some hg).1
set_option maxHeartbeats 2000000 in
theorem run11 {H : Heap} {Cd F Cn Gr Ag So : DV} {s : Sch} {q : Qry} (hC : ∀ g, vw g 3 Cd = some (s.cols.map Cl.d)) (hl : s.cols.length ≤ 1000) (hq : QV H F Cn Gr Ag So q) : E X 11 [schD Cd s, .agg (qryC F Cn Gr Ag So q.lim)] H = some (conD (outsV s q), H) := by
  obtain ⟨H1, hH1⟩ : ∃ H1, H1 = H ++ [HO.box 24 (schC Cd s), .box 30 (qryC F Cn Gr Ag So q.lim)] := ⟨_, rfl⟩
  have hq1 : QV H1 F Cn Gr Ag So q := by rw [hH1]; exact hq.ext _
  have hs1 : ∀ G, (H1 ++ G)[H.length]? = some (.box 24 (schC Cd s)) := fun G => by rw [hH1, List.append_assoc]; simp
  have hb1 : ∀ G, (H1 ++ G)[H.length + 1]? = some (.box 30 (qryC F Cn Gr Ag So q.lim)) := fun G => by rw [hH1, List.append_assoc]; simp [hget]
  have ht1 : H1.take H.length = H := by rw [hH1, List.take_append_of_le_length (Nat.le_refl _)]; exact List.take_length
  have e10 := run10 hC hl hq1
  by_cases p0 : checkV s q ≠ 0
  · have hv : outsV s q = [] := by unfold outsV; rw [if_pos p0]
    rw [hv]
    have p0' : (checkV s q != 0) = true := by simpa using p0
    generalize checkV s q = r at *
    subst hH1
    obtain ⟨cols, k1, k2, k3, k4⟩ := s
    simp only [schD, schC, qryC] at *
    clear hv hs1 hb1 ht1 hq1
    rw [E_go (X := X) _ b11 _ rfl rfl]; unfold b11; (repeat (first | rw [s_assoc] | rw [s_seq_reg (by simp [go_sem, e10, p0, p0', conD]; exact ⟨rfl, rfl⟩)] | rw [s_cnd (by simp [lk, keepEnv, Od.v, e10, p0, p0', conD]; exact rfl)] | rw [cnd_t] | rw [cnd_f] | rw [s_skip] | rw [s_ret] | rw [s_exit] | rw [C_ret] | rw [C_exit] | rw [C_skip] | rw [blk_ret] | rw [blk_norm] | rw [blk_exit] | rw [blk_exit' (by decide)] | rw [blkT_ret] | rw [blkT_norm] | rw [blkT_exit] | rw [blkT_exit' (by decide)] | rw [s_blk] | rw [s_reg (by simp [go_sem, e10, p0, p0', conD]; exact ⟨rfl, rfl⟩)] | rw [t_cnd (by simp [lk, keepEnv, Od.v, e10, p0, p0', conD]; exact rfl)] | rw [t_blk])); simp [ends_ret, ends_norm, resL, go_sem, fin, fz0, fz1, fzT, fzL, nlt, e10, p0, p0', conD]
  have p0' : checkV s q = 0 := by simpa using p0
  rw [p0'] at e10
  obtain ⟨c1, c2, c3, c4, c5, c6, c7⟩ := check_zero p0'
  have hv : outsV s q = (q.cols ++ q.group).map (kindV s) ++ q.aggs.map (aggK s) := by unfold outsV; rw [if_neg p0]
  have e22 := fun g => run22 hq.c hq.g hq.nc hq.ng g
  have y1 := fun g => hq.c.elt hq.g g
  have y2 := hq.c.wc
  have y3 := hq.g.wc
  have y4 := hq.c.nr
  have y5 := hq.g.nr
  have v4 := hq.a
  have hnc := hq.nc
  have hng := hq.ng
  have hna := hq.na
  obtain ⟨l, hll⟩ : ∃ l, l = q.cols ++ q.group := ⟨_, rfl⟩
  have hlen : l.length ≤ 2000 := by rw [hll, List.length_append]; omega
  rw [← hll] at e22 c4 hv
  by_cases hl0 : l = []
  · have hcon : conD l = .nils := by rw [hl0]; rfl
    rw [hcon] at e22
    obtain ⟨ex, h2, o2, hc, g2, n2⟩ := loop11 (Hb := H1 ++ []) (b2 := H.length + 1) (Lq := .nils) hC (hs1 []) (by rw [hl0]; rfl) hlen c4 l.length 0 (H1 ++ []) .nils (by omega) (by omega) Gro.zero (fun _ => rfl)
    obtain ⟨ex3, h3, o3, hc3, g3, n3⟩ := loop11_1 (Hb := H1 ++ []) (pre := l.map (kindV s)) hC (hs1 []) v4 hna (by simpa using hlen) (fun x hx h34 => agg_has (aggsV_zero c5 x hx) h34) q.aggs.length 0 h2 o2 (by omega) (by omega) (by rw [show (l.map (kindV s) ++ (q.aggs.take 0).map (aggK s)) = l.map (kindV s) by simp]; exact g2) (fun h1 _ => n2 (by simpa using h1))
    rw [show ((0 : Nat) : Int) = 0 from rfl] at hc hc3
    have ht3 : h3.take H.length = H := by
      have h4 := g3.1
      have h5 : h3.take H.length = (h3.take (H1 ++ []).length).take H.length := by
        rw [List.take_take, Nat.min_eq_left]
        rw [hH1]; simp only [List.length_append]; omega
      rw [h5, h4, List.take_append_of_le_length (by rw [hH1]; simp only [List.length_append]; omega)]
      exact ht1
    have hb3 := pre_get g2.1 (hb1 [])
    have hfin : fin H h3 [o3] = (conD (outsV s q), H) := by
      rw [hv]
      obtain ⟨_, hr⟩ := g3
      rcases hr with ⟨rfl, h6⟩ | ⟨g, oo, rfl, h7, h8⟩
      · have : l.map (kindV s) ++ q.aggs.map (aggK s) = [] := by simpa using h6
        rw [this]
        simp [fin, ht3, fz1, fz0, conD]
      · have hne : l.map (kindV s) ++ q.aggs.map (aggK s) ≠ [] := by
          intro h
          obtain ⟨q1, q2⟩ := List.append_eq_nil_iff.1 h
          have := n3 q1 (by simpa using q2)
          cases this
        have hnr := nr_ints (l.map (kindV s) ++ q.aggs.map (aggK s))
        have hoo : ¬ oo < H.length := by
          have : H.length ≤ (H1 ++ []).length := by rw [hH1]; simp only [List.length_append]; omega
          omega
        unfold conD
        rw [if_neg hne]
        simp only [fin]
        rw [if_pos ht3]
        simp only [fz1, fz0]
        rw [if_neg hoo, h8]
        simp only
        rw [if_pos ⟨rfl, by simp, hnr⟩]
        simp
    generalize conD (outsV s q) = R at *
    clear hv hs1 hb1 hq1 hll c1 c2 c3 c4 c5 c6 c7 g2 g3 n2 n3 ht3 ht1 p0 p0'
    subst hH1
    obtain ⟨cols, k1, k2, k3, k4⟩ := s
    obtain ⟨fl, co, gr, ag, so, lim⟩ := q
    simp only [schD, schC, qryC, List.append_nil, List.append_assoc, List.cons_append, List.nil_append, List.length_append, List.length_cons, List.length_nil, Nat.zero_add, Nat.reduceAdd] at *
    rw [hl0, List.length_nil, show ((0 : Nat) : Int) = 0 from rfl] at hc
    rw [E_go (X := X) _ b11 _ rfl rfl]; unfold b11
    (repeat (first | rw [s_assoc] | rw [s_seq_reg (by simp [go_sem, e10, e22, y1, y2, y3, y4, y5, vw]; exact ⟨rfl, rfl⟩)] | rw [s_cnd (by simp [lk, keepEnv, Od.v, e10, e22, y1, y2, y3, y4, y5, vw]; exact rfl)] | rw [cnd_t] | rw [cnd_f] | rw [s_skip] | rw [s_ret] | rw [s_exit] | rw [C_ret] | rw [C_exit] | rw [C_skip] | rw [blk_ret] | rw [blk_norm] | rw [blk_exit] | rw [blk_exit' (by decide)] | rw [blkT_ret] | rw [blkT_norm] | rw [blkT_exit] | rw [blkT_exit' (by decide)] | rw [s_blk] | rw [s_reg (by simp [go_sem, e10, e22, y1, y2, y3, y4, y5, vw]; exact ⟨rfl, rfl⟩)] | rw [t_cnd (by simp [lk, keepEnv, Od.v, e10, e22, y1, y2, y3, y4, y5, vw]; exact rfl)] | rw [t_blk]))
    (try simp only [keepEnv, List.map_cons, List.map_nil, lk, reduceIte, Nat.reduceEqDiff, Nat.zero_ne_one, Nat.one_ne_zero])
    rw [hc]
    (repeat (first | rw [s_assoc] | rw [s_seq_reg (by simp [go_sem, hb3, v4]; exact ⟨rfl, rfl⟩)] | rw [s_cnd (by simp [lk, keepEnv, Od.v, hb3, v4]; exact rfl)] | rw [cnd_t] | rw [cnd_f] | rw [s_skip] | rw [s_ret] | rw [s_exit] | rw [C_ret] | rw [C_exit] | rw [C_skip] | rw [blk_ret] | rw [blk_norm] | rw [blk_exit] | rw [blk_exit' (by decide)] | rw [blkT_ret] | rw [blkT_norm] | rw [blkT_exit] | rw [blkT_exit' (by decide)] | rw [s_blk] | rw [s_reg (by simp [go_sem, hb3, v4]; exact ⟨rfl, rfl⟩)] | rw [t_cnd (by simp [lk, keepEnv, Od.v, hb3, v4]; exact rfl)] | rw [t_blk]))
    (try simp only [keepEnv, List.map_cons, List.map_nil, lk, reduceIte, Nat.reduceEqDiff, Nat.zero_ne_one, Nat.one_ne_zero])
    rw [hc3]
    (repeat (first | rw [s_assoc] | rw [s_seq_reg (by simp [go_sem]; exact ⟨rfl, rfl⟩)] | rw [s_cnd (by simp [lk, keepEnv, Od.v]; exact rfl)] | rw [cnd_t] | rw [cnd_f] | rw [s_skip] | rw [s_ret] | rw [s_exit] | rw [C_ret] | rw [C_exit] | rw [C_skip] | rw [blk_ret] | rw [blk_norm] | rw [blk_exit] | rw [blk_exit' (by decide)] | rw [blkT_ret] | rw [blkT_norm] | rw [blkT_exit] | rw [blkT_exit' (by decide)] | rw [s_blk] | rw [s_reg (by simp [go_sem]; exact ⟨rfl, rfl⟩)] | rw [t_cnd (by simp [lk, keepEnv, Od.v]; exact rfl)] | rw [t_blk]))
    rw [ends_ret]
    simp [resL, lk, keepEnv, hfin]
  · have hcon : conD l = .fresh 3 1 (l.map intD) := by unfold conD; rw [if_neg hl0]
    rw [hcon] at e22
    have hmap : (l.map intD).length = l.length := by simp
    obtain ⟨ex, h2, o2, hc, g2, n2⟩ := loop11 (Hb := H1 ++ [HO.row 3 1 0 (l.map intD)]) (b2 := H.length + 1) (Lq := (.row H1.length 0 0 l.length false)) hC (hs1 [HO.row 3 1 0 (l.map intD)]) (by simp [vw, List.take_of_length_le]) hlen c4 l.length 0 (H1 ++ [HO.row 3 1 0 (l.map intD)]) .nils (by omega) (by omega) Gro.zero (fun _ => rfl)
    obtain ⟨ex3, h3, o3, hc3, g3, n3⟩ := loop11_1 (Hb := H1 ++ [HO.row 3 1 0 (l.map intD)]) (pre := l.map (kindV s)) hC (hs1 [HO.row 3 1 0 (l.map intD)]) v4 hna (by simpa using hlen) (fun x hx h34 => agg_has (aggsV_zero c5 x hx) h34) q.aggs.length 0 h2 o2 (by omega) (by omega) (by rw [show (l.map (kindV s) ++ (q.aggs.take 0).map (aggK s)) = l.map (kindV s) by simp]; exact g2) (fun h1 _ => n2 (by simpa using h1))
    rw [show ((0 : Nat) : Int) = 0 from rfl] at hc hc3
    have ht3 : h3.take H.length = H := by
      have h4 := g3.1
      have h5 : h3.take H.length = (h3.take (H1 ++ [HO.row 3 1 0 (l.map intD)]).length).take H.length := by
        rw [List.take_take, Nat.min_eq_left]
        rw [hH1]; simp only [List.length_append]; omega
      rw [h5, h4, List.take_append_of_le_length (by rw [hH1]; simp only [List.length_append]; omega)]
      exact ht1
    have hb3 := pre_get g2.1 (hb1 [HO.row 3 1 0 (l.map intD)])
    have hfin : fin H h3 [o3] = (conD (outsV s q), H) := by
      rw [hv]
      obtain ⟨_, hr⟩ := g3
      rcases hr with ⟨rfl, h6⟩ | ⟨g, oo, rfl, h7, h8⟩
      · have : l.map (kindV s) ++ q.aggs.map (aggK s) = [] := by simpa using h6
        rw [this]
        simp [fin, ht3, fz1, fz0, conD]
      · have hne : l.map (kindV s) ++ q.aggs.map (aggK s) ≠ [] := by
          intro h
          obtain ⟨q1, q2⟩ := List.append_eq_nil_iff.1 h
          have := n3 q1 (by simpa using q2)
          cases this
        have hnr := nr_ints (l.map (kindV s) ++ q.aggs.map (aggK s))
        have hoo : ¬ oo < H.length := by
          have : H.length ≤ (H1 ++ [HO.row 3 1 0 (l.map intD)]).length := by rw [hH1]; simp only [List.length_append]; omega
          omega
        unfold conD
        rw [if_neg hne]
        simp only [fin]
        rw [if_pos ht3]
        simp only [fz1, fz0]
        rw [if_neg hoo, h8]
        simp only
        rw [if_pos ⟨rfl, by simp, hnr⟩]
        simp
    generalize conD (outsV s q) = R at *
    clear hv hs1 hb1 hq1 hll c1 c2 c3 c4 c5 c6 c7 g2 g3 n2 n3 ht3 ht1 p0 p0'
    subst hH1
    obtain ⟨cols, k1, k2, k3, k4⟩ := s
    obtain ⟨fl, co, gr, ag, so, lim⟩ := q
    simp only [schD, schC, qryC, List.append_nil, List.append_assoc, List.cons_append, List.nil_append, List.length_append, List.length_cons, List.length_nil, Nat.zero_add, Nat.reduceAdd] at *
    rw [E_go (X := X) _ b11 _ rfl rfl]; unfold b11
    (repeat (first | rw [s_assoc] | rw [s_seq_reg (by simp [go_sem, e10, e22, y1, y2, y3, y4, y5, vw]; exact ⟨rfl, rfl⟩)] | rw [s_cnd (by simp [lk, keepEnv, Od.v, e10, e22, y1, y2, y3, y4, y5, vw]; exact rfl)] | rw [cnd_t] | rw [cnd_f] | rw [s_skip] | rw [s_ret] | rw [s_exit] | rw [C_ret] | rw [C_exit] | rw [C_skip] | rw [blk_ret] | rw [blk_norm] | rw [blk_exit] | rw [blk_exit' (by decide)] | rw [blkT_ret] | rw [blkT_norm] | rw [blkT_exit] | rw [blkT_exit' (by decide)] | rw [s_blk] | rw [s_reg (by simp [go_sem, e10, e22, y1, y2, y3, y4, y5, vw]; exact ⟨rfl, rfl⟩)] | rw [t_cnd (by simp [lk, keepEnv, Od.v, e10, e22, y1, y2, y3, y4, y5, vw]; exact rfl)] | rw [t_blk]))
    (try simp only [keepEnv, List.map_cons, List.map_nil, lk, reduceIte, Nat.reduceEqDiff, Nat.zero_ne_one, Nat.one_ne_zero])
    rw [hc]
    (repeat (first | rw [s_assoc] | rw [s_seq_reg (by simp [go_sem, hb3, v4]; exact ⟨rfl, rfl⟩)] | rw [s_cnd (by simp [lk, keepEnv, Od.v, hb3, v4]; exact rfl)] | rw [cnd_t] | rw [cnd_f] | rw [s_skip] | rw [s_ret] | rw [s_exit] | rw [C_ret] | rw [C_exit] | rw [C_skip] | rw [blk_ret] | rw [blk_norm] | rw [blk_exit] | rw [blk_exit' (by decide)] | rw [blkT_ret] | rw [blkT_norm] | rw [blkT_exit] | rw [blkT_exit' (by decide)] | rw [s_blk] | rw [s_reg (by simp [go_sem, hb3, v4]; exact ⟨rfl, rfl⟩)] | rw [t_cnd (by simp [lk, keepEnv, Od.v, hb3, v4]; exact rfl)] | rw [t_blk]))
    (try simp only [keepEnv, List.map_cons, List.map_nil, lk, reduceIte, Nat.reduceEqDiff, Nat.zero_ne_one, Nat.one_ne_zero])
    rw [hc3]
    (repeat (first | rw [s_assoc] | rw [s_seq_reg (by simp [go_sem]; exact ⟨rfl, rfl⟩)] | rw [s_cnd (by simp [lk, keepEnv, Od.v]; exact rfl)] | rw [cnd_t] | rw [cnd_f] | rw [s_skip] | rw [s_ret] | rw [s_exit] | rw [C_ret] | rw [C_exit] | rw [C_skip] | rw [blk_ret] | rw [blk_norm] | rw [blk_exit] | rw [blk_exit' (by decide)] | rw [blkT_ret] | rw [blkT_norm] | rw [blkT_exit] | rw [blkT_exit' (by decide)] | rw [s_blk] | rw [s_reg (by simp [go_sem]; exact ⟨rfl, rfl⟩)] | rw [t_cnd (by simp [lk, keepEnv, Od.v]; exact rfl)] | rw [t_blk]))
    rw [ends_ret]
    simp [resL, lk, keepEnv, hfin]
theorem outs_eq {s : Sch} {q : Qry} (h : checkV s q = 0) : outsV s q = (q.cols ++ q.group).map (kindV s) ++ q.aggs.map (aggK s) := by
  unfold outsV; rw [if_neg (by rw [h]; simp)]
theorem outs_some {s : Sch} {q : Qry} (h : checkV s q = 0) : (q.cols ++ q.group).map (kindV s) ++ q.aggs.map (aggK s) ≠ [] := by
  obtain ⟨c1, c2, c3, c4, c5, c6, c7⟩ := check_zero h
  intro h2
  have h3 := congrArg List.length h2
  simp only [List.length_append, List.length_map, List.length_nil] at h3
  apply c6
  rw [show q.group.length + q.aggs.length = 0 by omega, show q.cols.length = 0 by omega]
end Go.Proofs.YtobpbjmnonbblaaDoor
