/- FilterRows, in plain Lean: the ideal run of the law. -/
import Derived.Test.YtfgnefnpfgdliaaDoorPopR
import Derived.Test.YtfgnefnpfgdliaaDoorFltQ
namespace Go.Proofs.YtfgnefnpfgdliaaDoor
set_option linter.unusedVariables false
set_option linter.unusedSimpArgs false
set_option maxRecDepth 10000
def lp6_0 : XC := .seq (.seq (.reg [⟨some 46, .mov (.t 13), none, false⟩, ⟨some 47, .mov (.t 1), none, false⟩, ⟨some 48, .len 1 (.t 47), none, false⟩, ⟨some 49, .bin .lss (.t 46) (.t 48), none, false⟩] [0, 1, 2, 11, 12, 13, 49]) (.cond (.t 49) .skip (.exit 0))) (.seq (.block 1 (.seq (.reg [⟨some 52, .load true 1 (.t 11), none, false⟩, ⟨some 53, .mov (.t 13), none, false⟩, ⟨some 54, .call (.c (.func 24 [] [])) [.t 52, .t 53], none, true⟩, ⟨some 55, .mov (.t 0), none, false⟩, ⟨some 56, .mov (.t 1), none, false⟩, ⟨some 57, .mov (.t 13), none, false⟩, ⟨some 58, .iaddr 1 (.t 56) (.t 57), none, false⟩, ⟨some 59, .load false 1 (.t 58), none, false⟩, ⟨some 60, .call (.c (.func 12 [] [])) [.t 55, .t 59], none, false⟩, ⟨some 61, .eqk 0 true (.t 54) (.t 60), none, false⟩, ⟨some 62, .mov (.t 61), none, false⟩, ⟨some 63, .load true 1 (.t 12), some (62, false), false⟩, ⟨some 64, .mov (.t 13), some (62, false), false⟩, ⟨some 65, .call (.c (.func 24 [] [])) [.t 63, .t 64], some (62, false), true⟩, ⟨some 66, .load true 1 (.t 11), some (62, false), false⟩, ⟨some 67, .mov (.t 13), some (62, false), false⟩, ⟨some 68, .call (.c (.func 24 [] [])) [.t 66, .t 67], some (62, false), false⟩, ⟨some 69, .eqk 0 true (.t 65) (.t 68), some (62, false), false⟩, ⟨some 70, .pick (.t 62) (.c (.bool true)) (.t 69), none, false⟩] [0, 1, 2, 11, 12, 13, 70]) (.cond (.t 70) (.seq (.reg [⟨some 6, .mov (.c (.bool false)), none, false⟩] [6]) .ret) .skip))) (.reg [⟨some 50, .mov (.t 13), none, false⟩, ⟨some 51, .bin .add (.t 50) (.c (.int .i64 1)), none, false⟩, ⟨some 13, .mov (.t 51), none, false⟩] [0, 1, 2, 11, 12, 13]))
def lp6_1 : XC := .seq (.seq (.reg [⟨some 71, .mov (.t 14), none, false⟩, ⟨some 72, .mov (.t 2), none, false⟩, ⟨some 73, .len 1 (.t 72), none, false⟩, ⟨some 74, .bin .lss (.t 71) (.t 73), none, false⟩] [0, 1, 2, 11, 12, 14, 74]) (.cond (.t 74) .skip (.exit 2))) (.seq (.block 3 (.seq (.reg [⟨some 77, .load true 1 (.t 12), none, false⟩, ⟨some 78, .mov (.t 1), none, false⟩, ⟨some 79, .len 1 (.t 78), none, false⟩, ⟨some 80, .mov (.t 14), none, false⟩, ⟨some 81, .bin .add (.t 79) (.t 80), none, false⟩, ⟨some 82, .call (.c (.func 24 [] [])) [.t 77, .t 81], none, true⟩, ⟨some 83, .mov (.t 0), none, false⟩, ⟨some 84, .mov (.t 2), none, false⟩, ⟨some 85, .mov (.t 14), none, false⟩, ⟨some 86, .iaddr 1 (.t 84) (.t 85), none, false⟩, ⟨some 87, .load false 1 (.t 86), none, false⟩, ⟨some 88, .call (.c (.func 12 [] [])) [.t 83, .t 87], none, false⟩, ⟨some 89, .eqk 0 true (.t 82) (.t 88), none, false⟩] [0, 1, 2, 11, 12, 14, 89]) (.cond (.t 89) (.seq (.reg [⟨some 6, .mov (.c (.bool false)), none, false⟩] [6]) .ret) .skip))) (.reg [⟨some 75, .mov (.t 14), none, false⟩, ⟨some 76, .bin .add (.t 75) (.c (.int .i64 1)), none, false⟩, ⟨some 14, .mov (.t 76), none, false⟩] [0, 1, 2, 11, 12, 14]))
theorem WL.one {W : DV} {ws : List Nat} (h : WL W ws) : W.one = true := by
  rcases h with rfl | ⟨rfl, _⟩ <;> rfl
theorem RowsL.append {ds es : List DV} {rs us : List (List V)} (h : RowsL ds rs) (h' : RowsL es us) : RowsL (ds ++ es) (rs ++ us) := by
  refine ⟨by simp [h.1, h'.1], fun i d vs h1 h2 => ?_⟩
  by_cases c : i < ds.length
  · rw [List.getElem?_append_left c] at h1
    rw [List.getElem?_append_left (by rw [← h.1]; exact c)] at h2
    exact h.2 i d vs h1 h2
  · rw [List.getElem?_append_right (by omega)] at h1
    rw [List.getElem?_append_right (by rw [← h.1]; omega), ← h.1] at h2
    exact h'.2 _ d vs h1 h2
/-- append(append(nil, a...), b...) -/
theorem app2 (H : Heap) (t sz b : Nat) (ds es : List DV) (hb : (ds.length + es.length) * b ≤ 140737488355328) : ∃ R1 h1 R h2, appx H t sz b .nils [] ds = some (R1, h1) ∧ vw h1 sz R1 = some ds ∧ (∃ G1, h1 = H ++ G1) ∧ appx h1 t sz b R1 ds es = some (R, h2) ∧ (∃ G2, h2 = H ++ G2) ∧ ∀ G, vw (h2 ++ G) sz R = some (ds ++ es) := by
  have hds : (([] : List DV).length + ds.length) * b ≤ 140737488355328 := by
    simp only [List.length_nil, Nat.zero_add]
    exact Nat.le_trans (Nat.mul_le_mul_right b (Nat.le_add_right _ _)) hb
  have hes : (([] : List DV).length + es.length) * b ≤ 140737488355328 := by
    simp only [List.length_nil, Nat.zero_add]
    exact Nat.le_trans (Nat.mul_le_mul_right b (Nat.le_add_left _ _)) hb
  by_cases c1 : ds = []
  · subst c1
    refine ⟨.nils, H, ?_⟩
    by_cases c2 : es = []
    · subst c2
      exact ⟨.nils, H, by simp [appx], rfl, ⟨[], by simp⟩, by simp [appx], ⟨[], by simp⟩, fun G => rfl⟩
    · refine ⟨.row H.length 0 0 es.length false, H ++ [.row t sz 0 es], by simp [appx], rfl, ⟨[], by simp⟩, ?_, ⟨_, rfl⟩, fun G => ?_⟩
      · simp only [appx, if_neg c2, if_pos hes]
      · simp [vw, List.take_of_length_le]
  · have e1 : appx H t sz b .nils [] ds = some (.row H.length 0 0 ds.length false, H ++ [.row t sz 0 ds]) := by simp only [appx, if_neg c1, if_pos hds]
    by_cases c2 : es = []
    · subst c2
      refine ⟨_, _, .row H.length 0 0 ds.length false, H ++ [.row t sz 0 ds], e1, by simp [vw, List.take_of_length_le], ⟨_, rfl⟩, by simp [appx], ⟨_, rfl⟩, fun G => by simp [vw, List.take_of_length_le]⟩
    · refine ⟨_, _, .row H.length 1 0 (ds.length + es.length) false, H ++ [.row t sz 1 (ds ++ es)], e1, by simp [vw, List.take_of_length_le], ⟨_, rfl⟩, ?_, ⟨_, rfl⟩, fun G => by simp [vw, List.take_of_length_le]⟩
      simp only [appx, if_neg c2, if_pos hb, hget0]
      simp [hset0]
section
variable {L A B : DV} {xs : List N} {ds es : List DV} {rs us : List (List V)} {H : Heap} {p q : Nat} {W1 W2 : DV}
theorem loop6 (hL : ∀ h, vw h 8 L = some (xs.map N.d)) (hA : ∀ h, vw h 1 A = some ds) (hd : RowsL ds rs) (hb : xs.length ≤ 60) (hr : rs.length ≤ 60) (hu : us.length ≤ 60)
    (hp : H[p]? = some (.box 34 [W1])) (hq : H[q]? = some (.box 34 [W2])) (w1 : WL W1 (rowsW xs rs)) (w2 : WL W2 (rowsW xs (rs ++ us))) (b1 : WB (rowsW xs rs)) (b2 : WB (rowsW xs (rs ++ us))) :
    ∀ (m i : Nat), rs.length - i ≤ m → i ≤ rs.length → ∃ y ex, C X (.loop lp6_0) [(0, L), (1, A), (2, B), (11, .ref p 0), (12, .ref q 0), (13, .int .i64 i)] H = some (.exit 0, (0, L) :: (1, A) :: (2, B) :: (11, .ref p 0) :: (12, .ref q 0) :: (13, y) :: ex, H) := by
  intro m
  have hdl := hd.1
  have hv := hA H
  induction m with
  | zero =>
    intro i hm hi
    obtain rfl : i = rs.length := by omega
    refine ⟨.int .i64 rs.length, [(49, .bool false)], ?_⟩
    rw [t_loop]
    unfold lp6_0
    (repeat (first | rw [s_assoc] | rw [s_seq_reg (by simp [evOps, evOp_n, evOp_r, evOp_d, evOp_dr, kpo_refl, kpo_app, cnd_some, cnd_pair, cnd_cnd_t, cnd_cnd_f, cnd_same, cnd_dvb, cnd_and, cnd_or, ↓evx_pick, gd_bool, gd_boolf, gd_tup, cnd_t, cnd_f, evTo, isCall, evx, put, lk, Od.v, keepEnv, enterEnv, ldx_ref, rdc, binx, binI, binS, unx, eqk, DV.isU, DV.cells, hget, hget0, hset, hset0, stx_ref, splice, DV.one, fillp, mat, eqcs, eqs, hv, hdl]; exact ⟨rfl, rfl⟩)] | rw [s_cnd (by simp [lk, keepEnv, Od.v, hv, hdl]; exact rfl)] | rw [cnd_t] | rw [cnd_f] | rw [s_skip] | rw [s_ret] | rw [s_exit] | rw [C_ret] | rw [C_exit] | rw [C_skip] | rw [blk_ret] | rw [blk_norm] | rw [blk_exit] | rw [blk_exit' (by decide)] | rw [blkT_ret] | rw [blkT_norm] | rw [blkT_exit] | rw [blkT_exit' (by decide)] | rw [s_blk] | rw [s_reg (by simp [evOps, evOp_n, evOp_r, evOp_d, evOp_dr, kpo_refl, kpo_app, cnd_some, cnd_pair, cnd_cnd_t, cnd_cnd_f, cnd_same, cnd_dvb, cnd_and, cnd_or, ↓evx_pick, gd_bool, gd_boolf, gd_tup, cnd_t, cnd_f, evTo, isCall, evx, put, lk, Od.v, keepEnv, enterEnv, ldx_ref, rdc, binx, binI, binS, unx, eqk, DV.isU, DV.cells, hget, hget0, hset, hset0, stx_ref, splice, DV.one, fillp, mat, eqcs, eqs, hv, hdl]; exact ⟨rfl, rfl⟩)] | rw [t_cnd (by simp [lk, keepEnv, Od.v, hv, hdl]; exact rfl)] | rw [t_blk]))
    rw [lp_exit]
    simp [keepEnv, lk]
  | succ m ih =>
    intro i hm hi
    by_cases c1 : i < rs.length
    · obtain ⟨I, hI⟩ : ∃ I, I = i + 1 := ⟨_, rfl⟩
      have z1 : IntKind.i64.wrap ((i : Int) + 1) = (I : Int) := (by rw [wrap64 _ (by omega) (by omega)]; omega)
      have c1' : i < ds.length := by omega
      have hRow := hd.2 i _ _ (List.getElem?_eq_getElem c1') (List.getElem?_eq_getElem c1)
      have e12 := run12 (H := H) (L := L) (xs := xs) (fun G => hL _) hRow (by omega)
      rw [rowsW_holds xs [rs[i]] (vs := rs[i]) rfl] at e12
      have e24a := run24 w1 b1 i (by omega) H
      have e24b := run24 w2 b2 i (by omega) H
      rw [rowsW_holds xs rs (List.getElem?_eq_getElem c1)] at e24a
      rw [rowsW_holds xs (rs ++ us) (vs := rs[i]) (by rw [List.getElem?_append_left c1]; exact List.getElem?_eq_getElem c1)] at e24b
      generalize holdsR xs rs[i] = op at *
      obtain ⟨d, hdg⟩ : ∃ d, ds[i] = d := ⟨_, rfl⟩
      rw [hdg] at hRow e12
      have hc : C X lp6_0 [(0, L), (1, A), (2, B), (11, .ref p 0), (12, .ref q 0), (13, .int .i64 i)] H = some (.norm, [(0, L), (1, A), (2, B), (11, .ref p 0), (12, .ref q 0), (13, .int .i64 I)], H) := by
        clear ih hL hA hd w1 w2 b1 b2
        rcases hRow with ⟨cc, rfl⟩ | ⟨rfl, _⟩
        · cases op
          · unfold lp6_0
            (repeat (first | rw [s_assoc] | rw [s_seq_reg (by simp [evOps, evOp_n, evOp_r, evOp_d, evOp_dr, kpo_refl, kpo_app, cnd_some, cnd_pair, cnd_cnd_t, cnd_cnd_f, cnd_same, cnd_dvb, cnd_and, cnd_or, ↓evx_pick, gd_bool, gd_boolf, gd_tup, cnd_t, cnd_f, evTo, isCall, evx, put, lk, Od.v, keepEnv, enterEnv, ldx_ref, rdc, binx, binI, binS, unx, eqk, DV.isU, DV.cells, hget, hget0, hset, hset0, stx_ref, splice, DV.one, fillp, mat, eqcs, eqs, c1, c1', z1, hv, hdl, hdg, hp, hq, ldx, e12, e24a, e24b]; exact ⟨rfl, rfl⟩)] | rw [s_cnd (by simp [lk, keepEnv, Od.v, c1, c1', z1, hv, hdl, hdg, hp, hq, ldx, e12, e24a, e24b]; exact rfl)] | rw [cnd_t] | rw [cnd_f] | rw [s_skip] | rw [s_ret] | rw [s_exit] | rw [C_ret] | rw [C_exit] | rw [C_skip] | rw [blk_ret] | rw [blk_norm] | rw [blk_exit] | rw [blk_exit' (by decide)] | rw [blkT_ret] | rw [blkT_norm] | rw [blkT_exit] | rw [blkT_exit' (by decide)] | rw [s_blk] | rw [s_reg (by simp [evOps, evOp_n, evOp_r, evOp_d, evOp_dr, kpo_refl, kpo_app, cnd_some, cnd_pair, cnd_cnd_t, cnd_cnd_f, cnd_same, cnd_dvb, cnd_and, cnd_or, ↓evx_pick, gd_bool, gd_boolf, gd_tup, cnd_t, cnd_f, evTo, isCall, evx, put, lk, Od.v, keepEnv, enterEnv, ldx_ref, rdc, binx, binI, binS, unx, eqk, DV.isU, DV.cells, hget, hget0, hset, hset0, stx_ref, splice, DV.one, fillp, mat, eqcs, eqs, c1, c1', z1, hv, hdl, hdg, hp, hq, ldx, e12, e24a, e24b]; exact ⟨rfl, rfl⟩)] | rw [t_cnd (by simp [lk, keepEnv, Od.v, c1, c1', z1, hv, hdl, hdg, hp, hq, ldx, e12, e24a, e24b]; exact rfl)] | rw [t_blk]))
            simp [keepEnv, lk]
          · unfold lp6_0
            (repeat (first | rw [s_assoc] | rw [s_seq_reg (by simp [evOps, evOp_n, evOp_r, evOp_d, evOp_dr, kpo_refl, kpo_app, cnd_some, cnd_pair, cnd_cnd_t, cnd_cnd_f, cnd_same, cnd_dvb, cnd_and, cnd_or, ↓evx_pick, gd_bool, gd_boolf, gd_tup, cnd_t, cnd_f, evTo, isCall, evx, put, lk, Od.v, keepEnv, enterEnv, ldx_ref, rdc, binx, binI, binS, unx, eqk, DV.isU, DV.cells, hget, hget0, hset, hset0, stx_ref, splice, DV.one, fillp, mat, eqcs, eqs, c1, c1', z1, hv, hdl, hdg, hp, hq, ldx, e12, e24a, e24b]; exact ⟨rfl, rfl⟩)] | rw [s_cnd (by simp [lk, keepEnv, Od.v, c1, c1', z1, hv, hdl, hdg, hp, hq, ldx, e12, e24a, e24b]; exact rfl)] | rw [cnd_t] | rw [cnd_f] | rw [s_skip] | rw [s_ret] | rw [s_exit] | rw [C_ret] | rw [C_exit] | rw [C_skip] | rw [blk_ret] | rw [blk_norm] | rw [blk_exit] | rw [blk_exit' (by decide)] | rw [blkT_ret] | rw [blkT_norm] | rw [blkT_exit] | rw [blkT_exit' (by decide)] | rw [s_blk] | rw [s_reg (by simp [evOps, evOp_n, evOp_r, evOp_d, evOp_dr, kpo_refl, kpo_app, cnd_some, cnd_pair, cnd_cnd_t, cnd_cnd_f, cnd_same, cnd_dvb, cnd_and, cnd_or, ↓evx_pick, gd_bool, gd_boolf, gd_tup, cnd_t, cnd_f, evTo, isCall, evx, put, lk, Od.v, keepEnv, enterEnv, ldx_ref, rdc, binx, binI, binS, unx, eqk, DV.isU, DV.cells, hget, hget0, hset, hset0, stx_ref, splice, DV.one, fillp, mat, eqcs, eqs, c1, c1', z1, hv, hdl, hdg, hp, hq, ldx, e12, e24a, e24b]; exact ⟨rfl, rfl⟩)] | rw [t_cnd (by simp [lk, keepEnv, Od.v, c1, c1', z1, hv, hdl, hdg, hp, hq, ldx, e12, e24a, e24b]; exact rfl)] | rw [t_blk]))
            simp [keepEnv, lk]
        · cases op
          · unfold lp6_0
            (repeat (first | rw [s_assoc] | rw [s_seq_reg (by simp [evOps, evOp_n, evOp_r, evOp_d, evOp_dr, kpo_refl, kpo_app, cnd_some, cnd_pair, cnd_cnd_t, cnd_cnd_f, cnd_same, cnd_dvb, cnd_and, cnd_or, ↓evx_pick, gd_bool, gd_boolf, gd_tup, cnd_t, cnd_f, evTo, isCall, evx, put, lk, Od.v, keepEnv, enterEnv, ldx_ref, rdc, binx, binI, binS, unx, eqk, DV.isU, DV.cells, hget, hget0, hset, hset0, stx_ref, splice, DV.one, fillp, mat, eqcs, eqs, c1, c1', z1, hv, hdl, hdg, hp, hq, ldx, e12, e24a, e24b]; exact ⟨rfl, rfl⟩)] | rw [s_cnd (by simp [lk, keepEnv, Od.v, c1, c1', z1, hv, hdl, hdg, hp, hq, ldx, e12, e24a, e24b]; exact rfl)] | rw [cnd_t] | rw [cnd_f] | rw [s_skip] | rw [s_ret] | rw [s_exit] | rw [C_ret] | rw [C_exit] | rw [C_skip] | rw [blk_ret] | rw [blk_norm] | rw [blk_exit] | rw [blk_exit' (by decide)] | rw [blkT_ret] | rw [blkT_norm] | rw [blkT_exit] | rw [blkT_exit' (by decide)] | rw [s_blk] | rw [s_reg (by simp [evOps, evOp_n, evOp_r, evOp_d, evOp_dr, kpo_refl, kpo_app, cnd_some, cnd_pair, cnd_cnd_t, cnd_cnd_f, cnd_same, cnd_dvb, cnd_and, cnd_or, ↓evx_pick, gd_bool, gd_boolf, gd_tup, cnd_t, cnd_f, evTo, isCall, evx, put, lk, Od.v, keepEnv, enterEnv, ldx_ref, rdc, binx, binI, binS, unx, eqk, DV.isU, DV.cells, hget, hget0, hset, hset0, stx_ref, splice, DV.one, fillp, mat, eqcs, eqs, c1, c1', z1, hv, hdl, hdg, hp, hq, ldx, e12, e24a, e24b]; exact ⟨rfl, rfl⟩)] | rw [t_cnd (by simp [lk, keepEnv, Od.v, c1, c1', z1, hv, hdl, hdg, hp, hq, ldx, e12, e24a, e24b]; exact rfl)] | rw [t_blk]))
            simp [keepEnv, lk]
          · unfold lp6_0
            (repeat (first | rw [s_assoc] | rw [s_seq_reg (by simp [evOps, evOp_n, evOp_r, evOp_d, evOp_dr, kpo_refl, kpo_app, cnd_some, cnd_pair, cnd_cnd_t, cnd_cnd_f, cnd_same, cnd_dvb, cnd_and, cnd_or, ↓evx_pick, gd_bool, gd_boolf, gd_tup, cnd_t, cnd_f, evTo, isCall, evx, put, lk, Od.v, keepEnv, enterEnv, ldx_ref, rdc, binx, binI, binS, unx, eqk, DV.isU, DV.cells, hget, hget0, hset, hset0, stx_ref, splice, DV.one, fillp, mat, eqcs, eqs, c1, c1', z1, hv, hdl, hdg, hp, hq, ldx, e12, e24a, e24b]; exact ⟨rfl, rfl⟩)] | rw [s_cnd (by simp [lk, keepEnv, Od.v, c1, c1', z1, hv, hdl, hdg, hp, hq, ldx, e12, e24a, e24b]; exact rfl)] | rw [cnd_t] | rw [cnd_f] | rw [s_skip] | rw [s_ret] | rw [s_exit] | rw [C_ret] | rw [C_exit] | rw [C_skip] | rw [blk_ret] | rw [blk_norm] | rw [blk_exit] | rw [blk_exit' (by decide)] | rw [blkT_ret] | rw [blkT_norm] | rw [blkT_exit] | rw [blkT_exit' (by decide)] | rw [s_blk] | rw [s_reg (by simp [evOps, evOp_n, evOp_r, evOp_d, evOp_dr, kpo_refl, kpo_app, cnd_some, cnd_pair, cnd_cnd_t, cnd_cnd_f, cnd_same, cnd_dvb, cnd_and, cnd_or, ↓evx_pick, gd_bool, gd_boolf, gd_tup, cnd_t, cnd_f, evTo, isCall, evx, put, lk, Od.v, keepEnv, enterEnv, ldx_ref, rdc, binx, binI, binS, unx, eqk, DV.isU, DV.cells, hget, hget0, hset, hset0, stx_ref, splice, DV.one, fillp, mat, eqcs, eqs, c1, c1', z1, hv, hdl, hdg, hp, hq, ldx, e12, e24a, e24b]; exact ⟨rfl, rfl⟩)] | rw [t_cnd (by simp [lk, keepEnv, Od.v, c1, c1', z1, hv, hdl, hdg, hp, hq, ldx, e12, e24a, e24b]; exact rfl)] | rw [t_blk]))
            simp [keepEnv, lk]
      rw [t_loop, hc, lp_norm]
      exact ih I (by omega) (by omega)
    · exact ih i (by omega) hi
theorem loop6b (hL : ∀ h, vw h 8 L = some (xs.map N.d)) (hA : ∀ h, vw h 1 A = some ds) (hB : ∀ h, vw h 1 B = some es) (hd : RowsL ds rs) (he : RowsL es us) (hb : xs.length ≤ 60) (hr : rs.length ≤ 60) (hu : us.length ≤ 60)
    (hq : H[q]? = some (.box 34 [W2])) (w2 : WL W2 (rowsW xs (rs ++ us))) (b2 : WB (rowsW xs (rs ++ us))) (T : DV) :
    ∀ (m i : Nat), us.length - i ≤ m → i ≤ us.length → ∃ y ex, C X (.loop lp6_1) [(0, L), (1, A), (2, B), (11, T), (12, .ref q 0), (14, .int .i64 i)] H = some (.exit 2, (0, L) :: (1, A) :: (2, B) :: (11, T) :: (12, .ref q 0) :: (14, y) :: ex, H) := by
  intro m
  have hdl := hd.1
  have hel := he.1
  have hv := hA H
  have hv' := hB H
  induction m with
  | zero =>
    intro i hm hi
    obtain rfl : i = us.length := by omega
    refine ⟨.int .i64 us.length, [(74, .bool false)], ?_⟩
    rw [t_loop]
    unfold lp6_1
    (repeat (first | rw [s_assoc] | rw [s_seq_reg (by simp [evOps, evOp_n, evOp_r, evOp_d, evOp_dr, kpo_refl, kpo_app, cnd_some, cnd_pair, cnd_cnd_t, cnd_cnd_f, cnd_same, cnd_dvb, cnd_and, cnd_or, ↓evx_pick, gd_bool, gd_boolf, gd_tup, cnd_t, cnd_f, evTo, isCall, evx, put, lk, Od.v, keepEnv, enterEnv, ldx_ref, rdc, binx, binI, binS, unx, eqk, DV.isU, DV.cells, hget, hget0, hset, hset0, stx_ref, splice, DV.one, fillp, mat, eqcs, eqs, hv', hel]; exact ⟨rfl, rfl⟩)] | rw [s_cnd (by simp [lk, keepEnv, Od.v, hv', hel]; exact rfl)] | rw [cnd_t] | rw [cnd_f] | rw [s_skip] | rw [s_ret] | rw [s_exit] | rw [C_ret] | rw [C_exit] | rw [C_skip] | rw [blk_ret] | rw [blk_norm] | rw [blk_exit] | rw [blk_exit' (by decide)] | rw [blkT_ret] | rw [blkT_norm] | rw [blkT_exit] | rw [blkT_exit' (by decide)] | rw [s_blk] | rw [s_reg (by simp [evOps, evOp_n, evOp_r, evOp_d, evOp_dr, kpo_refl, kpo_app, cnd_some, cnd_pair, cnd_cnd_t, cnd_cnd_f, cnd_same, cnd_dvb, cnd_and, cnd_or, ↓evx_pick, gd_bool, gd_boolf, gd_tup, cnd_t, cnd_f, evTo, isCall, evx, put, lk, Od.v, keepEnv, enterEnv, ldx_ref, rdc, binx, binI, binS, unx, eqk, DV.isU, DV.cells, hget, hget0, hset, hset0, stx_ref, splice, DV.one, fillp, mat, eqcs, eqs, hv', hel]; exact ⟨rfl, rfl⟩)] | rw [t_cnd (by simp [lk, keepEnv, Od.v, hv', hel]; exact rfl)] | rw [t_blk]))
    rw [lp_exit]
    simp [keepEnv, lk]
  | succ m ih =>
    intro i hm hi
    by_cases c1 : i < us.length
    · obtain ⟨I, hI⟩ : ∃ I, I = i + 1 := ⟨_, rfl⟩
      have z1 : IntKind.i64.wrap ((i : Int) + 1) = (I : Int) := (by rw [wrap64 _ (by omega) (by omega)]; omega)
      obtain ⟨J, hJ⟩ : ∃ J, J = rs.length + i := ⟨_, rfl⟩
      have z2 : IntKind.i64.wrap ((rs.length : Int) + (i : Int)) = (J : Int) := (by rw [wrap64 _ (by omega) (by omega)]; omega)
      have c1' : i < es.length := by omega
      have hRow := he.2 i _ _ (List.getElem?_eq_getElem c1') (List.getElem?_eq_getElem c1)
      have e12 := run12 (H := H) (L := L) (xs := xs) (fun G => hL _) hRow (by omega)
      rw [rowsW_holds xs [us[i]] (vs := us[i]) rfl] at e12
      have e24b := run24 w2 b2 J (by omega) H
      rw [rowsW_holds xs (rs ++ us) (vs := us[i]) (by rw [List.getElem?_append_right (by omega), hJ, Nat.add_sub_cancel_left]; exact List.getElem?_eq_getElem c1)] at e24b
      generalize holdsR xs us[i] = op at *
      obtain ⟨d, hdg⟩ : ∃ d, es[i] = d := ⟨_, rfl⟩
      rw [hdg] at hRow e12
      have hc : C X lp6_1 [(0, L), (1, A), (2, B), (11, T), (12, .ref q 0), (14, .int .i64 i)] H = some (.norm, [(0, L), (1, A), (2, B), (11, T), (12, .ref q 0), (14, .int .i64 I)], H) := by
        clear ih hL hA hB hd he w2 b2
        rcases hRow with ⟨cc, rfl⟩ | ⟨rfl, _⟩
        · cases op
          · unfold lp6_1
            (repeat (first | rw [s_assoc] | rw [s_seq_reg (by simp [evOps, evOp_n, evOp_r, evOp_d, evOp_dr, kpo_refl, kpo_app, cnd_some, cnd_pair, cnd_cnd_t, cnd_cnd_f, cnd_same, cnd_dvb, cnd_and, cnd_or, ↓evx_pick, gd_bool, gd_boolf, gd_tup, cnd_t, cnd_f, evTo, isCall, evx, put, lk, Od.v, keepEnv, enterEnv, ldx_ref, rdc, binx, binI, binS, unx, eqk, DV.isU, DV.cells, hget, hget0, hset, hset0, stx_ref, splice, DV.one, fillp, mat, eqcs, eqs, c1, c1', z1, z2, hv, hv', hdl, hel, hdg, hq, ldx, e12, e24b]; exact ⟨rfl, rfl⟩)] | rw [s_cnd (by simp [lk, keepEnv, Od.v, c1, c1', z1, z2, hv, hv', hdl, hel, hdg, hq, ldx, e12, e24b]; exact rfl)] | rw [cnd_t] | rw [cnd_f] | rw [s_skip] | rw [s_ret] | rw [s_exit] | rw [C_ret] | rw [C_exit] | rw [C_skip] | rw [blk_ret] | rw [blk_norm] | rw [blk_exit] | rw [blk_exit' (by decide)] | rw [blkT_ret] | rw [blkT_norm] | rw [blkT_exit] | rw [blkT_exit' (by decide)] | rw [s_blk] | rw [s_reg (by simp [evOps, evOp_n, evOp_r, evOp_d, evOp_dr, kpo_refl, kpo_app, cnd_some, cnd_pair, cnd_cnd_t, cnd_cnd_f, cnd_same, cnd_dvb, cnd_and, cnd_or, ↓evx_pick, gd_bool, gd_boolf, gd_tup, cnd_t, cnd_f, evTo, isCall, evx, put, lk, Od.v, keepEnv, enterEnv, ldx_ref, rdc, binx, binI, binS, unx, eqk, DV.isU, DV.cells, hget, hget0, hset, hset0, stx_ref, splice, DV.one, fillp, mat, eqcs, eqs, c1, c1', z1, z2, hv, hv', hdl, hel, hdg, hq, ldx, e12, e24b]; exact ⟨rfl, rfl⟩)] | rw [t_cnd (by simp [lk, keepEnv, Od.v, c1, c1', z1, z2, hv, hv', hdl, hel, hdg, hq, ldx, e12, e24b]; exact rfl)] | rw [t_blk]))
            simp [keepEnv, lk]
          · unfold lp6_1
            (repeat (first | rw [s_assoc] | rw [s_seq_reg (by simp [evOps, evOp_n, evOp_r, evOp_d, evOp_dr, kpo_refl, kpo_app, cnd_some, cnd_pair, cnd_cnd_t, cnd_cnd_f, cnd_same, cnd_dvb, cnd_and, cnd_or, ↓evx_pick, gd_bool, gd_boolf, gd_tup, cnd_t, cnd_f, evTo, isCall, evx, put, lk, Od.v, keepEnv, enterEnv, ldx_ref, rdc, binx, binI, binS, unx, eqk, DV.isU, DV.cells, hget, hget0, hset, hset0, stx_ref, splice, DV.one, fillp, mat, eqcs, eqs, c1, c1', z1, z2, hv, hv', hdl, hel, hdg, hq, ldx, e12, e24b]; exact ⟨rfl, rfl⟩)] | rw [s_cnd (by simp [lk, keepEnv, Od.v, c1, c1', z1, z2, hv, hv', hdl, hel, hdg, hq, ldx, e12, e24b]; exact rfl)] | rw [cnd_t] | rw [cnd_f] | rw [s_skip] | rw [s_ret] | rw [s_exit] | rw [C_ret] | rw [C_exit] | rw [C_skip] | rw [blk_ret] | rw [blk_norm] | rw [blk_exit] | rw [blk_exit' (by decide)] | rw [blkT_ret] | rw [blkT_norm] | rw [blkT_exit] | rw [blkT_exit' (by decide)] | rw [s_blk] | rw [s_reg (by simp [evOps, evOp_n, evOp_r, evOp_d, evOp_dr, kpo_refl, kpo_app, cnd_some, cnd_pair, cnd_cnd_t, cnd_cnd_f, cnd_same, cnd_dvb, cnd_and, cnd_or, ↓evx_pick, gd_bool, gd_boolf, gd_tup, cnd_t, cnd_f, evTo, isCall, evx, put, lk, Od.v, keepEnv, enterEnv, ldx_ref, rdc, binx, binI, binS, unx, eqk, DV.isU, DV.cells, hget, hget0, hset, hset0, stx_ref, splice, DV.one, fillp, mat, eqcs, eqs, c1, c1', z1, z2, hv, hv', hdl, hel, hdg, hq, ldx, e12, e24b]; exact ⟨rfl, rfl⟩)] | rw [t_cnd (by simp [lk, keepEnv, Od.v, c1, c1', z1, z2, hv, hv', hdl, hel, hdg, hq, ldx, e12, e24b]; exact rfl)] | rw [t_blk]))
            simp [keepEnv, lk]
        · cases op
          · unfold lp6_1
            (repeat (first | rw [s_assoc] | rw [s_seq_reg (by simp [evOps, evOp_n, evOp_r, evOp_d, evOp_dr, kpo_refl, kpo_app, cnd_some, cnd_pair, cnd_cnd_t, cnd_cnd_f, cnd_same, cnd_dvb, cnd_and, cnd_or, ↓evx_pick, gd_bool, gd_boolf, gd_tup, cnd_t, cnd_f, evTo, isCall, evx, put, lk, Od.v, keepEnv, enterEnv, ldx_ref, rdc, binx, binI, binS, unx, eqk, DV.isU, DV.cells, hget, hget0, hset, hset0, stx_ref, splice, DV.one, fillp, mat, eqcs, eqs, c1, c1', z1, z2, hv, hv', hdl, hel, hdg, hq, ldx, e12, e24b]; exact ⟨rfl, rfl⟩)] | rw [s_cnd (by simp [lk, keepEnv, Od.v, c1, c1', z1, z2, hv, hv', hdl, hel, hdg, hq, ldx, e12, e24b]; exact rfl)] | rw [cnd_t] | rw [cnd_f] | rw [s_skip] | rw [s_ret] | rw [s_exit] | rw [C_ret] | rw [C_exit] | rw [C_skip] | rw [blk_ret] | rw [blk_norm] | rw [blk_exit] | rw [blk_exit' (by decide)] | rw [blkT_ret] | rw [blkT_norm] | rw [blkT_exit] | rw [blkT_exit' (by decide)] | rw [s_blk] | rw [s_reg (by simp [evOps, evOp_n, evOp_r, evOp_d, evOp_dr, kpo_refl, kpo_app, cnd_some, cnd_pair, cnd_cnd_t, cnd_cnd_f, cnd_same, cnd_dvb, cnd_and, cnd_or, ↓evx_pick, gd_bool, gd_boolf, gd_tup, cnd_t, cnd_f, evTo, isCall, evx, put, lk, Od.v, keepEnv, enterEnv, ldx_ref, rdc, binx, binI, binS, unx, eqk, DV.isU, DV.cells, hget, hget0, hset, hset0, stx_ref, splice, DV.one, fillp, mat, eqcs, eqs, c1, c1', z1, z2, hv, hv', hdl, hel, hdg, hq, ldx, e12, e24b]; exact ⟨rfl, rfl⟩)] | rw [t_cnd (by simp [lk, keepEnv, Od.v, c1, c1', z1, z2, hv, hv', hdl, hel, hdg, hq, ldx, e12, e24b]; exact rfl)] | rw [t_blk]))
            simp [keepEnv, lk]
          · unfold lp6_1
            (repeat (first | rw [s_assoc] | rw [s_seq_reg (by simp [evOps, evOp_n, evOp_r, evOp_d, evOp_dr, kpo_refl, kpo_app, cnd_some, cnd_pair, cnd_cnd_t, cnd_cnd_f, cnd_same, cnd_dvb, cnd_and, cnd_or, ↓evx_pick, gd_bool, gd_boolf, gd_tup, cnd_t, cnd_f, evTo, isCall, evx, put, lk, Od.v, keepEnv, enterEnv, ldx_ref, rdc, binx, binI, binS, unx, eqk, DV.isU, DV.cells, hget, hget0, hset, hset0, stx_ref, splice, DV.one, fillp, mat, eqcs, eqs, c1, c1', z1, z2, hv, hv', hdl, hel, hdg, hq, ldx, e12, e24b]; exact ⟨rfl, rfl⟩)] | rw [s_cnd (by simp [lk, keepEnv, Od.v, c1, c1', z1, z2, hv, hv', hdl, hel, hdg, hq, ldx, e12, e24b]; exact rfl)] | rw [cnd_t] | rw [cnd_f] | rw [s_skip] | rw [s_ret] | rw [s_exit] | rw [C_ret] | rw [C_exit] | rw [C_skip] | rw [blk_ret] | rw [blk_norm] | rw [blk_exit] | rw [blk_exit' (by decide)] | rw [blkT_ret] | rw [blkT_norm] | rw [blkT_exit] | rw [blkT_exit' (by decide)] | rw [s_blk] | rw [s_reg (by simp [evOps, evOp_n, evOp_r, evOp_d, evOp_dr, kpo_refl, kpo_app, cnd_some, cnd_pair, cnd_cnd_t, cnd_cnd_f, cnd_same, cnd_dvb, cnd_and, cnd_or, ↓evx_pick, gd_bool, gd_boolf, gd_tup, cnd_t, cnd_f, evTo, isCall, evx, put, lk, Od.v, keepEnv, enterEnv, ldx_ref, rdc, binx, binI, binS, unx, eqk, DV.isU, DV.cells, hget, hget0, hset, hset0, stx_ref, splice, DV.one, fillp, mat, eqcs, eqs, c1, c1', z1, z2, hv, hv', hdl, hel, hdg, hq, ldx, e12, e24b]; exact ⟨rfl, rfl⟩)] | rw [t_cnd (by simp [lk, keepEnv, Od.v, c1, c1', z1, z2, hv, hv', hdl, hel, hdg, hq, ldx, e12, e24b]; exact rfl)] | rw [t_blk]))
            simp [keepEnv, lk]
      rw [t_loop, hc, lp_norm]
      exact ih I (by omega) (by omega)
    · exact ih i (by omega) hi
set_option maxHeartbeats 2000000 in
theorem run6 (hL : ∀ h, vw h 8 L = some (xs.map N.d)) (hA : ∀ h, vw h 1 A = some ds) (hB : ∀ h, vw h 1 B = some es) (sA : ∀ h, srcOf h 1 A = some ds) (sB : ∀ h, srcOf h 1 B = some es) (hd : RowsL ds rs) (he : RowsL es us) : E X 6 [L, A, B] [] = some (.bool true, []) := by
  have e9 := run9 []
  have e10 := run10 (hL [])
  have e11 := run11 (hA []) hd
  have e11' := run11 (hB []) he
  cases hf : fewN xs
  · rw [hf] at e10
    generalize lightR rs = lr at *
    generalize lightR us = lu at *
    rw [E_go (X := X) _ b6 _ rfl rfl]; unfold b6; (repeat (first | rw [s_assoc] | rw [s_seq_reg (by simp [evOps, evOp_n, evOp_r, evOp_d, evOp_dr, kpo_refl, kpo_app, cnd_some, cnd_pair, cnd_cnd_t, cnd_cnd_f, cnd_same, cnd_dvb, cnd_and, cnd_or, ↓evx_pick, gd_bool, gd_boolf, gd_tup, cnd_t, cnd_f, evTo, isCall, evx, put, lk, Od.v, keepEnv, enterEnv, ldx_ref, rdc, binx, binI, binS, unx, eqk, DV.isU, DV.cells, hget, hget0, hset, hset0, stx_ref, splice, DV.one, fillp, mat, eqcs, eqs, e9, e10, e11, e11']; exact ⟨rfl, rfl⟩)] | rw [s_cnd (by simp [lk, keepEnv, Od.v, e9, e10, e11, e11']; exact rfl)] | rw [cnd_t] | rw [cnd_f] | rw [s_skip] | rw [s_ret] | rw [s_exit] | rw [C_ret] | rw [C_exit] | rw [C_skip] | rw [blk_ret] | rw [blk_norm] | rw [blk_exit] | rw [blk_exit' (by decide)] | rw [blkT_ret] | rw [blkT_norm] | rw [blkT_exit] | rw [blkT_exit' (by decide)] | rw [s_blk] | rw [s_reg (by simp [evOps, evOp_n, evOp_r, evOp_d, evOp_dr, kpo_refl, kpo_app, cnd_some, cnd_pair, cnd_cnd_t, cnd_cnd_f, cnd_same, cnd_dvb, cnd_and, cnd_or, ↓evx_pick, gd_bool, gd_boolf, gd_tup, cnd_t, cnd_f, evTo, isCall, evx, put, lk, Od.v, keepEnv, enterEnv, ldx_ref, rdc, binx, binI, binS, unx, eqk, DV.isU, DV.cells, hget, hget0, hset, hset0, stx_ref, splice, DV.one, fillp, mat, eqcs, eqs, e9, e10, e11, e11']; exact ⟨rfl, rfl⟩)] | rw [t_cnd (by simp [lk, keepEnv, Od.v, e9, e10, e11, e11']; exact rfl)] | rw [t_blk])); simp [ends_ret, ends_norm, resL, evOps, evOp_n, evOp_r, evOp_d, evOp_dr, kpo_refl, kpo_app, cnd_some, cnd_pair, cnd_cnd_t, cnd_cnd_f, cnd_same, cnd_dvb, cnd_and, cnd_or, ↓evx_pick, gd_bool, gd_boolf, gd_tup, cnd_t, cnd_f, evTo, isCall, evx, put, lk, Od.v, keepEnv, enterEnv, ldx_ref, rdc, binx, binI, binS, unx, eqk, DV.isU, DV.cells, hget, hget0, hset, hset0, stx_ref, splice, DV.one, fillp, mat, eqcs, eqs, fin, fz0, fz1, fzT, fzL, nlt, e9, e10, e11, e11']
  cases hl : lightR rs
  · rw [hf] at e10
    rw [hl] at e11
    generalize lightR us = lu at *
    rw [E_go (X := X) _ b6 _ rfl rfl]; unfold b6; (repeat (first | rw [s_assoc] | rw [s_seq_reg (by simp [evOps, evOp_n, evOp_r, evOp_d, evOp_dr, kpo_refl, kpo_app, cnd_some, cnd_pair, cnd_cnd_t, cnd_cnd_f, cnd_same, cnd_dvb, cnd_and, cnd_or, ↓evx_pick, gd_bool, gd_boolf, gd_tup, cnd_t, cnd_f, evTo, isCall, evx, put, lk, Od.v, keepEnv, enterEnv, ldx_ref, rdc, binx, binI, binS, unx, eqk, DV.isU, DV.cells, hget, hget0, hset, hset0, stx_ref, splice, DV.one, fillp, mat, eqcs, eqs, e9, e10, e11, e11']; exact ⟨rfl, rfl⟩)] | rw [s_cnd (by simp [lk, keepEnv, Od.v, e9, e10, e11, e11']; exact rfl)] | rw [cnd_t] | rw [cnd_f] | rw [s_skip] | rw [s_ret] | rw [s_exit] | rw [C_ret] | rw [C_exit] | rw [C_skip] | rw [blk_ret] | rw [blk_norm] | rw [blk_exit] | rw [blk_exit' (by decide)] | rw [blkT_ret] | rw [blkT_norm] | rw [blkT_exit] | rw [blkT_exit' (by decide)] | rw [s_blk] | rw [s_reg (by simp [evOps, evOp_n, evOp_r, evOp_d, evOp_dr, kpo_refl, kpo_app, cnd_some, cnd_pair, cnd_cnd_t, cnd_cnd_f, cnd_same, cnd_dvb, cnd_and, cnd_or, ↓evx_pick, gd_bool, gd_boolf, gd_tup, cnd_t, cnd_f, evTo, isCall, evx, put, lk, Od.v, keepEnv, enterEnv, ldx_ref, rdc, binx, binI, binS, unx, eqk, DV.isU, DV.cells, hget, hget0, hset, hset0, stx_ref, splice, DV.one, fillp, mat, eqcs, eqs, e9, e10, e11, e11']; exact ⟨rfl, rfl⟩)] | rw [t_cnd (by simp [lk, keepEnv, Od.v, e9, e10, e11, e11']; exact rfl)] | rw [t_blk])); simp [ends_ret, ends_norm, resL, evOps, evOp_n, evOp_r, evOp_d, evOp_dr, kpo_refl, kpo_app, cnd_some, cnd_pair, cnd_cnd_t, cnd_cnd_f, cnd_same, cnd_dvb, cnd_and, cnd_or, ↓evx_pick, gd_bool, gd_boolf, gd_tup, cnd_t, cnd_f, evTo, isCall, evx, put, lk, Od.v, keepEnv, enterEnv, ldx_ref, rdc, binx, binI, binS, unx, eqk, DV.isU, DV.cells, hget, hget0, hset, hset0, stx_ref, splice, DV.one, fillp, mat, eqcs, eqs, fin, fz0, fz1, fzT, fzL, nlt, e9, e10, e11, e11']
  cases hl' : lightR us
  · rw [hf] at e10
    rw [hl] at e11
    rw [hl'] at e11'
    rw [E_go (X := X) _ b6 _ rfl rfl]; unfold b6; (repeat (first | rw [s_assoc] | rw [s_seq_reg (by simp [evOps, evOp_n, evOp_r, evOp_d, evOp_dr, kpo_refl, kpo_app, cnd_some, cnd_pair, cnd_cnd_t, cnd_cnd_f, cnd_same, cnd_dvb, cnd_and, cnd_or, ↓evx_pick, gd_bool, gd_boolf, gd_tup, cnd_t, cnd_f, evTo, isCall, evx, put, lk, Od.v, keepEnv, enterEnv, ldx_ref, rdc, binx, binI, binS, unx, eqk, DV.isU, DV.cells, hget, hget0, hset, hset0, stx_ref, splice, DV.one, fillp, mat, eqcs, eqs, e9, e10, e11, e11']; exact ⟨rfl, rfl⟩)] | rw [s_cnd (by simp [lk, keepEnv, Od.v, e9, e10, e11, e11']; exact rfl)] | rw [cnd_t] | rw [cnd_f] | rw [s_skip] | rw [s_ret] | rw [s_exit] | rw [C_ret] | rw [C_exit] | rw [C_skip] | rw [blk_ret] | rw [blk_norm] | rw [blk_exit] | rw [blk_exit' (by decide)] | rw [blkT_ret] | rw [blkT_norm] | rw [blkT_exit] | rw [blkT_exit' (by decide)] | rw [s_blk] | rw [s_reg (by simp [evOps, evOp_n, evOp_r, evOp_d, evOp_dr, kpo_refl, kpo_app, cnd_some, cnd_pair, cnd_cnd_t, cnd_cnd_f, cnd_same, cnd_dvb, cnd_and, cnd_or, ↓evx_pick, gd_bool, gd_boolf, gd_tup, cnd_t, cnd_f, evTo, isCall, evx, put, lk, Od.v, keepEnv, enterEnv, ldx_ref, rdc, binx, binI, binS, unx, eqk, DV.isU, DV.cells, hget, hget0, hset, hset0, stx_ref, splice, DV.one, fillp, mat, eqcs, eqs, e9, e10, e11, e11']; exact ⟨rfl, rfl⟩)] | rw [t_cnd (by simp [lk, keepEnv, Od.v, e9, e10, e11, e11']; exact rfl)] | rw [t_blk])); simp [ends_ret, ends_norm, resL, evOps, evOp_n, evOp_r, evOp_d, evOp_dr, kpo_refl, kpo_app, cnd_some, cnd_pair, cnd_cnd_t, cnd_cnd_f, cnd_same, cnd_dvb, cnd_and, cnd_or, ↓evx_pick, gd_bool, gd_boolf, gd_tup, cnd_t, cnd_f, evTo, isCall, evx, put, lk, Od.v, keepEnv, enterEnv, ldx_ref, rdc, binx, binI, binS, unx, eqk, DV.isU, DV.cells, hget, hget0, hset, hset0, stx_ref, splice, DV.one, fillp, mat, eqcs, eqs, fin, fz0, fz1, fzT, fzL, nlt, e9, e10, e11, e11']
  rw [hf] at e10
  rw [hl] at e11
  rw [hl'] at e11'
  have hb : xs.length ≤ 60 := by simp [fewN] at hf; exact hf.1
  have hr : rs.length ≤ 60 := by simp [lightR] at hl; exact hl.1
  have hu : us.length ≤ 60 := by simp [lightR] at hl'; exact hl'.1
  have hdl := hd.1
  have hel := he.1
  obtain ⟨W1, f1, q1, r1, t1⟩ := run16 (H := []) (L := L) (A := A) (fun G => hL _) (fun G => hA _) hd (by omega) (by omega)
  obtain ⟨R1, h1, R, h2, a1, v1, ⟨G1, g1⟩, a2, ⟨G2, g2⟩, v2⟩ := app2 [.box 34 [W1]] 28 1 24 ds es (by omega)
  obtain ⟨W2, f2, q2, r2, t2⟩ := run16 (H := h2) (L := L) (A := R) (fun G => hL _) v2 (hd.append he) (by omega) (by simp; omega)
  have o1 := q1.one
  have o2 := q2.one
  have p1 : (h2 ++ [HO.box 34 [W2]])[0]? = some (.box 34 [W1]) := by rw [g2]; rfl
  have p2 : (h2 ++ [HO.box 34 [W2]])[h2.length]? = some (.box 34 [W2]) := by simp
  obtain ⟨y, ex, hc⟩ := loop6 (B := B) hL hA hd hb hr hu p1 p2 q1 q2 r1 r2 rs.length 0 (by omega) (by omega)
  obtain ⟨y', ex', hc'⟩ := loop6b hL hA hB hd he hb hr hu p2 q2 r2 (.ref 0 0) us.length 0 (by omega) (by omega)
  rw [show ((0 : Nat) : Int) = 0 from rfl] at hc hc'
  unfold lp6_0 at hc
  unfold lp6_1 at hc'
  have e23a := run23 q1 r1 (by omega) (h2 ++ [HO.box 34 [W2]])
  have e23b := run23 q2 r2 (by omega) (h2 ++ [HO.box 34 [W2]])
  rw [rowsW_list] at e23a e23b
  have k1 := rowsI_len xs rs rs.length
  have k2 := rowsI_len xs (rs ++ us) (rs ++ us).length
  rw [List.length_append] at k2
  obtain ⟨J, hJ⟩ : ∃ J, J = rs.length + us.length := ⟨_, rfl⟩
  have z2 : IntKind.i64.wrap ((rs.length : Int) + (us.length : Int)) = (J : Int) := (by rw [wrap64 _ (by omega) (by omega)]; omega)
  rw [← hJ] at k2
  rw [List.length_append] at e23b
  rw [← hJ] at e23b
  generalize (rowsI xs rs rs.length).length = n1 at *
  generalize (rowsI xs (rs ++ us) J).length = n2 at *
  have k3 : ((n1 : Int) ≤ rs.length) := by omega
  have k4 : ((n2 : Int) ≤ J) := by omega
  have n0 : ∀ h, vw h 1 .nils = some [] := fun _ => rfl
  clear q1 q2 r1 r2 t1 t2 v2 hd he
  rw [E_go (X := X) _ b6 _ rfl rfl]; unfold b6
  (repeat (first | rw [s_assoc] | rw [s_seq_reg (by simp [evOps, evOp_n, evOp_r, evOp_d, evOp_dr, kpo_refl, kpo_app, cnd_some, cnd_pair, cnd_cnd_t, cnd_cnd_f, cnd_same, cnd_dvb, cnd_and, cnd_or, ↓evx_pick, gd_bool, gd_boolf, gd_tup, cnd_t, cnd_f, evTo, isCall, evx, put, lk, Od.v, keepEnv, enterEnv, ldx_ref, rdc, binx, binI, binS, unx, eqk, DV.isU, DV.cells, hget, hget0, hset, hset0, stx_ref, splice, fillp, mat, eqcs, eqs, one_bool, one_int, one_str, one_nilp, one_ref, one_elem, one_nils, one_list, one_row, one_nilm, one_map, one_nilf, one_func, one_nili, one_ifc, one_agg, one_tup, one_undef, one_fresh, e9, e10, e11, e11', hA, hB, sA, sB, n0, f1, a1, v1, a2, f2, o1, o2]; exact ⟨rfl, rfl⟩)] | rw [s_cnd (by simp [lk, keepEnv, Od.v, e9, e10, e11, e11', hA, hB, sA, sB, n0, f1, a1, v1, a2, f2, o1, o2]; exact rfl)] | rw [cnd_t] | rw [cnd_f] | rw [s_skip] | rw [s_ret] | rw [s_exit] | rw [C_ret] | rw [C_exit] | rw [C_skip] | rw [blk_ret] | rw [blk_norm] | rw [blk_exit] | rw [blk_exit' (by decide)] | rw [blkT_ret] | rw [blkT_norm] | rw [blkT_exit] | rw [blkT_exit' (by decide)] | rw [s_blk] | rw [s_reg (by simp [evOps, evOp_n, evOp_r, evOp_d, evOp_dr, kpo_refl, kpo_app, cnd_some, cnd_pair, cnd_cnd_t, cnd_cnd_f, cnd_same, cnd_dvb, cnd_and, cnd_or, ↓evx_pick, gd_bool, gd_boolf, gd_tup, cnd_t, cnd_f, evTo, isCall, evx, put, lk, Od.v, keepEnv, enterEnv, ldx_ref, rdc, binx, binI, binS, unx, eqk, DV.isU, DV.cells, hget, hget0, hset, hset0, stx_ref, splice, fillp, mat, eqcs, eqs, one_bool, one_int, one_str, one_nilp, one_ref, one_elem, one_nils, one_list, one_row, one_nilm, one_map, one_nilf, one_func, one_nili, one_ifc, one_agg, one_tup, one_undef, one_fresh, e9, e10, e11, e11', hA, hB, sA, sB, n0, f1, a1, v1, a2, f2, o1, o2]; exact ⟨rfl, rfl⟩)] | rw [t_cnd (by simp [lk, keepEnv, Od.v, e9, e10, e11, e11', hA, hB, sA, sB, n0, f1, a1, v1, a2, f2, o1, o2]; exact rfl)] | rw [t_blk]))
  (try simp only [keepEnv, List.map_cons, List.map_nil, lk, reduceIte, Nat.reduceEqDiff, Nat.zero_ne_one, Nat.one_ne_zero])
  rw [hc]
  clear hc
  (repeat (first | rw [s_assoc] | rw [s_seq_reg (by simp [evOps, evOp_n, evOp_r, evOp_d, evOp_dr, kpo_refl, kpo_app, cnd_some, cnd_pair, cnd_cnd_t, cnd_cnd_f, cnd_same, cnd_dvb, cnd_and, cnd_or, ↓evx_pick, gd_bool, gd_boolf, gd_tup, cnd_t, cnd_f, evTo, isCall, evx, put, lk, Od.v, keepEnv, enterEnv, ldx_ref, rdc, binx, binI, binS, unx, eqk, DV.isU, DV.cells, hget, hget0, hset, hset0, stx_ref, splice, DV.one, fillp, mat, eqcs, eqs]; exact ⟨rfl, rfl⟩)] | rw [s_cnd (by simp [lk, keepEnv, Od.v]; exact rfl)] | rw [cnd_t] | rw [cnd_f] | rw [s_skip] | rw [s_ret] | rw [s_exit] | rw [C_ret] | rw [C_exit] | rw [C_skip] | rw [blk_ret] | rw [blk_norm] | rw [blk_exit] | rw [blk_exit' (by decide)] | rw [blkT_ret] | rw [blkT_norm] | rw [blkT_exit] | rw [blkT_exit' (by decide)] | rw [s_blk] | rw [s_reg (by simp [evOps, evOp_n, evOp_r, evOp_d, evOp_dr, kpo_refl, kpo_app, cnd_some, cnd_pair, cnd_cnd_t, cnd_cnd_f, cnd_same, cnd_dvb, cnd_and, cnd_or, ↓evx_pick, gd_bool, gd_boolf, gd_tup, cnd_t, cnd_f, evTo, isCall, evx, put, lk, Od.v, keepEnv, enterEnv, ldx_ref, rdc, binx, binI, binS, unx, eqk, DV.isU, DV.cells, hget, hget0, hset, hset0, stx_ref, splice, DV.one, fillp, mat, eqcs, eqs]; exact ⟨rfl, rfl⟩)] | rw [t_cnd (by simp [lk, keepEnv, Od.v]; exact rfl)] | rw [t_blk]))
  (try simp only [keepEnv, List.map_cons, List.map_nil, lk, reduceIte, Nat.reduceEqDiff, Nat.zero_ne_one, Nat.one_ne_zero])
  rw [hc']
  clear hc'
  generalize h2 ++ [HO.box 34 [W2]] = P at *
  (repeat (first | rw [s_assoc] | rw [s_seq_reg (by simp [evOps, evOp_n, evOp_r, evOp_d, evOp_dr, kpo_refl, kpo_app, cnd_some, cnd_pair, cnd_cnd_t, cnd_cnd_f, cnd_same, cnd_dvb, cnd_and, cnd_or, ↓evx_pick, gd_bool, gd_boolf, gd_tup, cnd_t, cnd_f, evTo, isCall, evx, put, lk, Od.v, keepEnv, enterEnv, ldx_ref, rdc, binx, binI, binS, unx, eqk, DV.isU, DV.cells, hget, hget0, hset, hset0, stx_ref, splice, fillp, mat, eqcs, eqs, one_bool, one_int, one_str, one_nilp, one_ref, one_elem, one_nils, one_list, one_row, one_nilm, one_map, one_nilf, one_func, one_nili, one_ifc, one_agg, one_tup, one_undef, one_fresh, p1, p2, hA, hB, hdl, hel, e23a, e23b, z2, k1, k2]; exact ⟨rfl, rfl⟩)] | rw [s_cnd (by simp [lk, keepEnv, Od.v, p1, p2, hA, hB, hdl, hel, e23a, e23b, z2, k1, k2]; exact rfl)] | rw [cnd_t] | rw [cnd_f] | rw [s_skip] | rw [s_ret] | rw [s_exit] | rw [C_ret] | rw [C_exit] | rw [C_skip] | rw [blk_ret] | rw [blk_norm] | rw [blk_exit] | rw [blk_exit' (by decide)] | rw [blkT_ret] | rw [blkT_norm] | rw [blkT_exit] | rw [blkT_exit' (by decide)] | rw [s_blk] | rw [s_reg (by simp [evOps, evOp_n, evOp_r, evOp_d, evOp_dr, kpo_refl, kpo_app, cnd_some, cnd_pair, cnd_cnd_t, cnd_cnd_f, cnd_same, cnd_dvb, cnd_and, cnd_or, ↓evx_pick, gd_bool, gd_boolf, gd_tup, cnd_t, cnd_f, evTo, isCall, evx, put, lk, Od.v, keepEnv, enterEnv, ldx_ref, rdc, binx, binI, binS, unx, eqk, DV.isU, DV.cells, hget, hget0, hset, hset0, stx_ref, splice, fillp, mat, eqcs, eqs, one_bool, one_int, one_str, one_nilp, one_ref, one_elem, one_nils, one_list, one_row, one_nilm, one_map, one_nilf, one_func, one_nili, one_ifc, one_agg, one_tup, one_undef, one_fresh, p1, p2, hA, hB, hdl, hel, e23a, e23b, z2, k1, k2]; exact ⟨rfl, rfl⟩)] | rw [t_cnd (by simp [lk, keepEnv, Od.v, p1, p2, hA, hB, hdl, hel, e23a, e23b, z2, k1, k2]; exact rfl)] | rw [t_blk]))
  simp [ends_ret, ends_norm, resL, evOps, evOp_n, evOp_r, evOp_d, evOp_dr, kpo_refl, kpo_app, cnd_some, cnd_pair, cnd_cnd_t, cnd_cnd_f, cnd_same, cnd_dvb, cnd_and, cnd_or, ↓evx_pick, gd_bool, gd_boolf, gd_tup, cnd_t, cnd_f, evTo, isCall, evx, put, lk, Od.v, keepEnv, enterEnv, ldx_ref, rdc, binx, binI, binS, unx, eqk, DV.isU, DV.cells, hget, hget0, hset, hset0, stx_ref, splice, fillp, mat, eqcs, eqs, one_bool, one_int, one_str, one_nilp, one_ref, one_elem, one_nils, one_list, one_row, one_nilm, one_map, one_nilf, one_func, one_nili, one_ifc, one_agg, one_tup, one_undef, one_fresh, fin, fz0, fz1, fzT, fzL, nlt, k1]
end
end Go.Proofs.YtfgnefnpfgdliaaDoor
