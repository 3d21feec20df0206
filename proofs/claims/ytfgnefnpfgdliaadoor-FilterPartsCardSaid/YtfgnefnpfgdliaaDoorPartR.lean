/- FilterParts, in plain Lean: the ideal run of the law. -/
import Derived.Test.YtfgnefnpfgdliaaDoorPartP
import Derived.Test.YtfgnefnpfgdliaaDoorFltQ
namespace Go.Proofs.YtfgnefnpfgdliaaDoor
set_option linter.unusedVariables false
set_option linter.unusedSimpArgs false
set_option maxRecDepth 10000
theorem WL.one {W : DV} {ws : List Nat} (h : WL W ws) : W.one = true := by
  rcases h with rfl | ⟨rfl, _⟩ <;> rfl
theorem pNE (a c k n : Int) (s : ByteArray) (t : Bool) (i j : Int) (h : Heap) : eltL [.agg [.int .i64 a, .int .i64 c, .int .i64 k, .int .i64 n, .str s, .bool t, .int .i64 i, .int .i64 j]] h = some ([.agg [.int .i64 a, .int .i64 c, .int .i64 k, .int .i64 n, .str s, .bool t, .int .i64 i, .int .i64 j]], h) := rfl
theorem pNW (a c k n : Int) (s : ByteArray) (t : Bool) (i j : Int) : Wc 8 (.agg [.int .i64 a, .int .i64 c, .int .i64 k, .int .i64 n, .str s, .bool t, .int .i64 i, .int .i64 j]) := by simp [Wc, DV.cells, DV.one]
theorem pNN (a c k n : Int) (s : ByteArray) (t : Bool) (i j : Int) : Nr (.agg [.int .i64 a, .int .i64 c, .int .i64 k, .int .i64 n, .str s, .bool t, .int .i64 i, .int .i64 j]) := .agg (fun x hx => by
    simp at hx
    rcases hx with rfl | rfl | rfl | rfl | rfl | rfl | rfl | rfl
    · exact .int _ _
    · exact .int _ _
    · exact .int _ _
    · exact .int _ _
    · exact .str _
    · exact .bool _
    · exact .int _ _
    · exact .int _ _)
abbrev askL : DV := .list 1 [.int .i64 7, .int .i64 3, .int .i64 1, .int .i64 5] true
section
variable {A : DV} {ds : List DV} {rs : List (List V)} {k n : Int} {s : ByteArray} {t : Bool} {col : Int}
theorem step5 (hA : ∀ h, vw h 1 A = some ds) (hd : RowsL ds rs) (hr : rs.length ≤ 60) {h : Heap} {T : DV} {ws : List Nat} (h0 : h[0]? = some (.box 39 [.int .i64 k, .int .i64 n, .str s, .bool t])) (h1 : h[1]? = some (.box 34 [T])) (wT : WL T ws) (bT : WB ws) (lT : ws.length ≤ 1024)
    (i I a : Int) (hi : (i = 0 ∧ a = 7 ∧ I = 1) ∨ (i = 1 ∧ a = 3 ∧ I = 2) ∨ (i = 2 ∧ a = 1 ∧ I = 3) ∨ (i = 3 ∧ a = 5 ∧ I = 4)) {M M' : Nat} (hM : M ≤ 1000) (hM' : M' = M + pcnt a col ⟨k, n, s, t⟩ rs) :
    ∃ h', C X lp5_0 [(0, .int .i64 col), (2, A), (4, .ref 0 0), (9, askL), (10, .int .i64 M), (11, .ref 1 0), (12, .int .i64 i)] h = some (.norm, [(0, .int .i64 col), (2, A), (4, .ref 0 0), (9, askL), (10, .int .i64 M'), (11, .ref 1 0), (12, .int .i64 I)], h') ∧
      h'[0]? = some (.box 39 [.int .i64 k, .int .i64 n, .str s, .bool t]) ∧ h'[1]? = some (.box 34 [.list 1 ((orW ws (rowsW [pN a col ⟨k, n, s, t⟩] rs)).map uD) false]) ∧ WB (orW ws (rowsW [pN a col ⟨k, n, s, t⟩] rs)) ∧ (orW ws (rowsW [pN a col ⟨k, n, s, t⟩] rs)).length ≤ 1024 := by
  obtain ⟨W, f1, q1, r1, t1⟩ := run16 (H := h ++ [.box 34 [.nils]]) (L := .list 8 [(pN a col ⟨k, n, s, t⟩).d] true) (A := A) (xs := [pN a col ⟨k, n, s, t⟩]) (fun G => rfl) (fun G => hA _) hd (by simp) (by omega)
  have hl1 : 1 < h.length := (List.getElem?_eq_some_iff.1 h1).1
  have hl0 : 0 < h.length := by omega
  have h0' : ∀ l, (h ++ l)[0]? = some (HO.box 39 [.int .i64 k, .int .i64 n, .str s, .bool t]) := fun l => by rw [List.getElem?_append_left hl0]; exact h0
  have h1' : ∀ l, (h ++ l)[1]? = some (HO.box 34 [T]) := fun l => by rw [List.getElem?_append_left hl1]; exact h1
  have g0 : ∀ l (p : 0 < (h ++ l).length), (h ++ l)[0]'p = HO.box 39 [.int .i64 k, .int .i64 n, .str s, .bool t] := fun l p => by
    have := h0' l
    rw [List.getElem?_eq_getElem p] at this
    injection this
  have g1 : ∀ l (p : 1 < (h ++ l).length), (h ++ l)[1]'p = HO.box 34 [T] := fun l p => by
    have := h1' l
    rw [List.getElem?_eq_getElem p] at this
    injection this
  have e23 := fun H => run23 q1 r1 (by omega) H
  have e20 := fun H => run20 wT q1 bT r1 (by omega) (by omega) H
  have pc : pcnt a col ⟨k, n, s, t⟩ rs = (bitsOf (rowsW [pN a col ⟨k, n, s, t⟩] rs) 0).length := rfl
  have hp : pcnt a col ⟨k, n, s, t⟩ rs ≤ rs.length := by
    rcases hi with ⟨_, rfl, _⟩ | ⟨_, rfl, _⟩ | ⟨_, rfl, _⟩ | ⟨_, rfl, _⟩ <;> exact pcnt_le _ _ _ (by decide) (by decide) _
  have o1 := q1.one
  have oT := wT.one
  have lo : (orW ws (rowsW [pN a col ⟨k, n, s, t⟩] rs)).length ≤ 1024 := by simp [orW]; omega
  have bo : WB (orW ws (rowsW [pN a col ⟨k, n, s, t⟩] rs)) := orW_WB bT r1
  refine ⟨(h ++ [HO.box 34 [W]]).set 1 (HO.box 34 [.list 1 ((orW ws (rowsW [pN a col ⟨k, n, s, t⟩] rs)).map uD) false]), ?_, ?_, ?_, bo, lo⟩
  · rw [← pc] at e23
    generalize pcnt a col ⟨k, n, s, t⟩ rs = pq at *
    have zM : IntKind.i64.wrap ((M : Int) + (pq : Int)) = (M' : Int) := (by rw [wrap64 _ (by omega) (by omega)]; omega)
    generalize orW ws (rowsW [pN a col ⟨k, n, s, t⟩] rs) = ow at *
    generalize rowsW [pN a col ⟨k, n, s, t⟩] rs = rw1 at *
    simp only [pN, N.d] at f1
    clear hM' hp pc lo bo t1 q1 r1 wT bT lT hd hA
    have z0 : IntKind.i64.wrap 1 = 1 := by decide
    have z1 : IntKind.i64.wrap 2 = 2 := by decide
    have z2 : IntKind.i64.wrap 3 = 3 := by decide
    have z3 : IntKind.i64.wrap 4 = 4 := by decide
    rcases hi with ⟨rfl, rfl, rfl⟩ | ⟨rfl, rfl, rfl⟩ | ⟨rfl, rfl, rfl⟩ | ⟨rfl, rfl, rfl⟩
    · unfold lp5_0
      (repeat (first | rw [s_assoc] | rw [s_seq_reg (by simp [evOps, evOp_n, evOp_r, evOp_d, evOp_dr, kpo_refl, kpo_app, cnd_some, cnd_pair, cnd_cnd_t, cnd_cnd_f, cnd_same, cnd_dvb, cnd_and, cnd_or, ↓evx_pick, gd_bool, gd_boolf, gd_tup, cnd_t, cnd_f, evTo, isCall, evx, put, lk, Od.v, keepEnv, enterEnv, ldx_ref, rdc, binx, binI, binS, unx, eqk, DV.isU, DV.cells, hget, hget0, hset, hset0, stx_ref, splice, fillp, mat, eqcs, eqs, one_bool, one_int, one_str, one_nilp, one_ref, one_elem, one_nils, one_list, one_row, one_nilm, one_map, one_nilf, one_func, one_nili, one_ifc, one_agg, one_tup, one_undef, one_fresh, h0, h1, h0', h1', g0, g1, f1, e23, e20, o1, oT, zM, z0, ldx, vw, pNE, pNW, pNN]; exact ⟨rfl, rfl⟩)] | rw [s_cnd (by simp [lk, keepEnv, Od.v, h0, h1, h0', h1', g0, g1, f1, e23, e20, o1, oT, zM, z0, ldx, vw, pNE, pNW, pNN]; exact rfl)] | rw [cnd_t] | rw [cnd_f] | rw [s_skip] | rw [s_ret] | rw [s_exit] | rw [C_ret] | rw [C_exit] | rw [C_skip] | rw [blk_ret] | rw [blk_norm] | rw [blk_exit] | rw [blk_exit' (by decide)] | rw [blkT_ret] | rw [blkT_norm] | rw [blkT_exit] | rw [blkT_exit' (by decide)] | rw [s_blk] | rw [s_reg (by simp [evOps, evOp_n, evOp_r, evOp_d, evOp_dr, kpo_refl, kpo_app, cnd_some, cnd_pair, cnd_cnd_t, cnd_cnd_f, cnd_same, cnd_dvb, cnd_and, cnd_or, ↓evx_pick, gd_bool, gd_boolf, gd_tup, cnd_t, cnd_f, evTo, isCall, evx, put, lk, Od.v, keepEnv, enterEnv, ldx_ref, rdc, binx, binI, binS, unx, eqk, DV.isU, DV.cells, hget, hget0, hset, hset0, stx_ref, splice, fillp, mat, eqcs, eqs, one_bool, one_int, one_str, one_nilp, one_ref, one_elem, one_nils, one_list, one_row, one_nilm, one_map, one_nilf, one_func, one_nili, one_ifc, one_agg, one_tup, one_undef, one_fresh, h0, h1, h0', h1', g0, g1, f1, e23, e20, o1, oT, zM, z0, ldx, vw, pNE, pNW, pNN]; exact ⟨rfl, rfl⟩)] | rw [t_cnd (by simp [lk, keepEnv, Od.v, h0, h1, h0', h1', g0, g1, f1, e23, e20, o1, oT, zM, z0, ldx, vw, pNE, pNW, pNN]; exact rfl)] | rw [t_blk]))
      simp [keepEnv, lk, z0]
    · unfold lp5_0
      (repeat (first | rw [s_assoc] | rw [s_seq_reg (by simp [evOps, evOp_n, evOp_r, evOp_d, evOp_dr, kpo_refl, kpo_app, cnd_some, cnd_pair, cnd_cnd_t, cnd_cnd_f, cnd_same, cnd_dvb, cnd_and, cnd_or, ↓evx_pick, gd_bool, gd_boolf, gd_tup, cnd_t, cnd_f, evTo, isCall, evx, put, lk, Od.v, keepEnv, enterEnv, ldx_ref, rdc, binx, binI, binS, unx, eqk, DV.isU, DV.cells, hget, hget0, hset, hset0, stx_ref, splice, fillp, mat, eqcs, eqs, one_bool, one_int, one_str, one_nilp, one_ref, one_elem, one_nils, one_list, one_row, one_nilm, one_map, one_nilf, one_func, one_nili, one_ifc, one_agg, one_tup, one_undef, one_fresh, h0, h1, h0', h1', g0, g1, f1, e23, e20, o1, oT, zM, z1, ldx, vw, pNE, pNW, pNN]; exact ⟨rfl, rfl⟩)] | rw [s_cnd (by simp [lk, keepEnv, Od.v, h0, h1, h0', h1', g0, g1, f1, e23, e20, o1, oT, zM, z1, ldx, vw, pNE, pNW, pNN]; exact rfl)] | rw [cnd_t] | rw [cnd_f] | rw [s_skip] | rw [s_ret] | rw [s_exit] | rw [C_ret] | rw [C_exit] | rw [C_skip] | rw [blk_ret] | rw [blk_norm] | rw [blk_exit] | rw [blk_exit' (by decide)] | rw [blkT_ret] | rw [blkT_norm] | rw [blkT_exit] | rw [blkT_exit' (by decide)] | rw [s_blk] | rw [s_reg (by simp [evOps, evOp_n, evOp_r, evOp_d, evOp_dr, kpo_refl, kpo_app, cnd_some, cnd_pair, cnd_cnd_t, cnd_cnd_f, cnd_same, cnd_dvb, cnd_and, cnd_or, ↓evx_pick, gd_bool, gd_boolf, gd_tup, cnd_t, cnd_f, evTo, isCall, evx, put, lk, Od.v, keepEnv, enterEnv, ldx_ref, rdc, binx, binI, binS, unx, eqk, DV.isU, DV.cells, hget, hget0, hset, hset0, stx_ref, splice, fillp, mat, eqcs, eqs, one_bool, one_int, one_str, one_nilp, one_ref, one_elem, one_nils, one_list, one_row, one_nilm, one_map, one_nilf, one_func, one_nili, one_ifc, one_agg, one_tup, one_undef, one_fresh, h0, h1, h0', h1', g0, g1, f1, e23, e20, o1, oT, zM, z1, ldx, vw, pNE, pNW, pNN]; exact ⟨rfl, rfl⟩)] | rw [t_cnd (by simp [lk, keepEnv, Od.v, h0, h1, h0', h1', g0, g1, f1, e23, e20, o1, oT, zM, z1, ldx, vw, pNE, pNW, pNN]; exact rfl)] | rw [t_blk]))
      simp [keepEnv, lk, z1]
    · unfold lp5_0
      (repeat (first | rw [s_assoc] | rw [s_seq_reg (by simp [evOps, evOp_n, evOp_r, evOp_d, evOp_dr, kpo_refl, kpo_app, cnd_some, cnd_pair, cnd_cnd_t, cnd_cnd_f, cnd_same, cnd_dvb, cnd_and, cnd_or, ↓evx_pick, gd_bool, gd_boolf, gd_tup, cnd_t, cnd_f, evTo, isCall, evx, put, lk, Od.v, keepEnv, enterEnv, ldx_ref, rdc, binx, binI, binS, unx, eqk, DV.isU, DV.cells, hget, hget0, hset, hset0, stx_ref, splice, fillp, mat, eqcs, eqs, one_bool, one_int, one_str, one_nilp, one_ref, one_elem, one_nils, one_list, one_row, one_nilm, one_map, one_nilf, one_func, one_nili, one_ifc, one_agg, one_tup, one_undef, one_fresh, h0, h1, h0', h1', g0, g1, f1, e23, e20, o1, oT, zM, z2, ldx, vw, pNE, pNW, pNN]; exact ⟨rfl, rfl⟩)] | rw [s_cnd (by simp [lk, keepEnv, Od.v, h0, h1, h0', h1', g0, g1, f1, e23, e20, o1, oT, zM, z2, ldx, vw, pNE, pNW, pNN]; exact rfl)] | rw [cnd_t] | rw [cnd_f] | rw [s_skip] | rw [s_ret] | rw [s_exit] | rw [C_ret] | rw [C_exit] | rw [C_skip] | rw [blk_ret] | rw [blk_norm] | rw [blk_exit] | rw [blk_exit' (by decide)] | rw [blkT_ret] | rw [blkT_norm] | rw [blkT_exit] | rw [blkT_exit' (by decide)] | rw [s_blk] | rw [s_reg (by simp [evOps, evOp_n, evOp_r, evOp_d, evOp_dr, kpo_refl, kpo_app, cnd_some, cnd_pair, cnd_cnd_t, cnd_cnd_f, cnd_same, cnd_dvb, cnd_and, cnd_or, ↓evx_pick, gd_bool, gd_boolf, gd_tup, cnd_t, cnd_f, evTo, isCall, evx, put, lk, Od.v, keepEnv, enterEnv, ldx_ref, rdc, binx, binI, binS, unx, eqk, DV.isU, DV.cells, hget, hget0, hset, hset0, stx_ref, splice, fillp, mat, eqcs, eqs, one_bool, one_int, one_str, one_nilp, one_ref, one_elem, one_nils, one_list, one_row, one_nilm, one_map, one_nilf, one_func, one_nili, one_ifc, one_agg, one_tup, one_undef, one_fresh, h0, h1, h0', h1', g0, g1, f1, e23, e20, o1, oT, zM, z2, ldx, vw, pNE, pNW, pNN]; exact ⟨rfl, rfl⟩)] | rw [t_cnd (by simp [lk, keepEnv, Od.v, h0, h1, h0', h1', g0, g1, f1, e23, e20, o1, oT, zM, z2, ldx, vw, pNE, pNW, pNN]; exact rfl)] | rw [t_blk]))
      simp [keepEnv, lk, z2]
    · unfold lp5_0
      (repeat (first | rw [s_assoc] | rw [s_seq_reg (by simp [evOps, evOp_n, evOp_r, evOp_d, evOp_dr, kpo_refl, kpo_app, cnd_some, cnd_pair, cnd_cnd_t, cnd_cnd_f, cnd_same, cnd_dvb, cnd_and, cnd_or, ↓evx_pick, gd_bool, gd_boolf, gd_tup, cnd_t, cnd_f, evTo, isCall, evx, put, lk, Od.v, keepEnv, enterEnv, ldx_ref, rdc, binx, binI, binS, unx, eqk, DV.isU, DV.cells, hget, hget0, hset, hset0, stx_ref, splice, fillp, mat, eqcs, eqs, one_bool, one_int, one_str, one_nilp, one_ref, one_elem, one_nils, one_list, one_row, one_nilm, one_map, one_nilf, one_func, one_nili, one_ifc, one_agg, one_tup, one_undef, one_fresh, h0, h1, h0', h1', g0, g1, f1, e23, e20, o1, oT, zM, z3, ldx, vw, pNE, pNW, pNN]; exact ⟨rfl, rfl⟩)] | rw [s_cnd (by simp [lk, keepEnv, Od.v, h0, h1, h0', h1', g0, g1, f1, e23, e20, o1, oT, zM, z3, ldx, vw, pNE, pNW, pNN]; exact rfl)] | rw [cnd_t] | rw [cnd_f] | rw [s_skip] | rw [s_ret] | rw [s_exit] | rw [C_ret] | rw [C_exit] | rw [C_skip] | rw [blk_ret] | rw [blk_norm] | rw [blk_exit] | rw [blk_exit' (by decide)] | rw [blkT_ret] | rw [blkT_norm] | rw [blkT_exit] | rw [blkT_exit' (by decide)] | rw [s_blk] | rw [s_reg (by simp [evOps, evOp_n, evOp_r, evOp_d, evOp_dr, kpo_refl, kpo_app, cnd_some, cnd_pair, cnd_cnd_t, cnd_cnd_f, cnd_same, cnd_dvb, cnd_and, cnd_or, ↓evx_pick, gd_bool, gd_boolf, gd_tup, cnd_t, cnd_f, evTo, isCall, evx, put, lk, Od.v, keepEnv, enterEnv, ldx_ref, rdc, binx, binI, binS, unx, eqk, DV.isU, DV.cells, hget, hget0, hset, hset0, stx_ref, splice, fillp, mat, eqcs, eqs, one_bool, one_int, one_str, one_nilp, one_ref, one_elem, one_nils, one_list, one_row, one_nilm, one_map, one_nilf, one_func, one_nili, one_ifc, one_agg, one_tup, one_undef, one_fresh, h0, h1, h0', h1', g0, g1, f1, e23, e20, o1, oT, zM, z3, ldx, vw, pNE, pNW, pNN]; exact ⟨rfl, rfl⟩)] | rw [t_cnd (by simp [lk, keepEnv, Od.v, h0, h1, h0', h1', g0, g1, f1, e23, e20, o1, oT, zM, z3, ldx, vw, pNE, pNW, pNN]; exact rfl)] | rw [t_blk]))
      simp [keepEnv, lk, z3]
  · rw [List.getElem?_set_ne (by decide)]; exact h0' _
  · rw [List.getElem?_set_self (by simp; omega)]
theorem loop5 (hA : ∀ h, vw h 1 A = some ds) (hd : RowsL ds rs) (hr : rs.length ≤ 60) {h : Heap} (h0 : h[0]? = some (.box 39 [.int .i64 k, .int .i64 n, .str s, .bool t])) {T : DV} (h1 : h[1]? = some (.box 34 [T])) (wT : WL T []) :
    ∃ h' y ex, C X (.loop lp5_0) [(0, .int .i64 col), (2, A), (4, .ref 0 0), (9, askL), (10, .int .i64 0), (11, .ref 1 0), (12, .int .i64 0)] h = some (.exit 0, (0, .int .i64 col) :: (2, A) :: (4, .ref 0 0) :: (9, askL) :: (10, .int .i64 (hasN col rs rs.length : Nat)) :: (11, .ref 1 0) :: (12, y) :: ex, h') ∧
      h'[1]? = some (.box 34 [.list 1 ((allW col ⟨k, n, s, t⟩ rs).map uD) false]) ∧ WB (allW col ⟨k, n, s, t⟩ rs) ∧ (allW col ⟨k, n, s, t⟩ rs).length ≤ 1024 := by
  have p1 := pcnt_le 7 col ⟨k, n, s, t⟩ (by decide) (by decide) rs
  have p2 := pcnt_le 3 col ⟨k, n, s, t⟩ (by decide) (by decide) rs
  have p3 := pcnt_le 1 col ⟨k, n, s, t⟩ (by decide) (by decide) rs
  have p4 := pcnt_le 5 col ⟨k, n, s, t⟩ (by decide) (by decide) rs
  have ps := pcnt_sum col ⟨k, n, s, t⟩ rs
  obtain ⟨k1, c1, a1, b1, w1, l1⟩ := step5 (A := A) (col := col) hA hd hr h0 h1 wT (fun x hx => by cases hx) (by simp) 0 1 7 (by simp) (M := 0) (M' := pcnt 7 col ⟨k, n, s, t⟩ rs) (by omega) (by omega)
  obtain ⟨k2, c2, a2, b2, w2, l2⟩ := step5 (A := A) (col := col) hA hd hr a1 b1 (.inl rfl) w1 l1 1 2 3 (by simp) (M := pcnt 7 col ⟨k, n, s, t⟩ rs) (M' := pcnt 7 col ⟨k, n, s, t⟩ rs + pcnt 3 col ⟨k, n, s, t⟩ rs) (by omega) rfl
  obtain ⟨k3, c3, a3, b3, w3, l3⟩ := step5 (A := A) (col := col) hA hd hr a2 b2 (.inl rfl) w2 l2 2 3 1 (by simp) (M := pcnt 7 col ⟨k, n, s, t⟩ rs + pcnt 3 col ⟨k, n, s, t⟩ rs) (M' := pcnt 7 col ⟨k, n, s, t⟩ rs + pcnt 3 col ⟨k, n, s, t⟩ rs + pcnt 1 col ⟨k, n, s, t⟩ rs) (by omega) rfl
  obtain ⟨k4, c4, a4, b4, w4, l4⟩ := step5 (A := A) (col := col) hA hd hr a3 b3 (.inl rfl) w3 l3 3 4 5 (by simp) (M := pcnt 7 col ⟨k, n, s, t⟩ rs + pcnt 3 col ⟨k, n, s, t⟩ rs + pcnt 1 col ⟨k, n, s, t⟩ rs) (M' := hasN col rs rs.length) (by omega) ps.symm
  have c1 : C X lp5_0 [(0, .int .i64 col), (2, A), (4, .ref 0 0), (9, askL), (10, .int .i64 0), (11, .ref 1 0), (12, .int .i64 0)] h = _ := c1
  rw [t_loop, c1, lp_norm, t_loop, c2, lp_norm, t_loop, c3, lp_norm, t_loop, c4, lp_norm]
  refine ⟨k4, .int .i64 4, [(35, .bool false)], ?_, b4, w4, l4⟩
  clear c1 c2 c3 c4 ps p1 p2 p3 p4
  rw [t_loop]
  generalize hasN col rs rs.length = hn
  unfold lp5_0
  (repeat (first | rw [s_assoc] | rw [s_seq_reg (by simp [evOps, evOp_n, evOp_r, evOp_d, evOp_dr, kpo_refl, kpo_app, cnd_some, cnd_pair, cnd_cnd_t, cnd_cnd_f, cnd_same, cnd_dvb, cnd_and, cnd_or, ↓evx_pick, gd_bool, gd_boolf, gd_tup, cnd_t, cnd_f, evTo, isCall, evx, put, lk, Od.v, keepEnv, enterEnv, ldx_ref, rdc, binx, binI, binS, unx, eqk, DV.isU, DV.cells, hget, hget0, hset, hset0, stx_ref, splice, DV.one, fillp, mat, eqcs, eqs]; exact ⟨rfl, rfl⟩)] | rw [s_cnd (by simp [lk, keepEnv, Od.v]; exact rfl)] | rw [cnd_t] | rw [cnd_f] | rw [s_skip] | rw [s_ret] | rw [s_exit] | rw [C_ret] | rw [C_exit] | rw [C_skip] | rw [blk_ret] | rw [blk_norm] | rw [blk_exit] | rw [blk_exit' (by decide)] | rw [blkT_ret] | rw [blkT_norm] | rw [blkT_exit] | rw [blkT_exit' (by decide)] | rw [s_blk] | rw [s_reg (by simp [evOps, evOp_n, evOp_r, evOp_d, evOp_dr, kpo_refl, kpo_app, cnd_some, cnd_pair, cnd_cnd_t, cnd_cnd_f, cnd_same, cnd_dvb, cnd_and, cnd_or, ↓evx_pick, gd_bool, gd_boolf, gd_tup, cnd_t, cnd_f, evTo, isCall, evx, put, lk, Od.v, keepEnv, enterEnv, ldx_ref, rdc, binx, binI, binS, unx, eqk, DV.isU, DV.cells, hget, hget0, hset, hset0, stx_ref, splice, DV.one, fillp, mat, eqcs, eqs]; exact ⟨rfl, rfl⟩)] | rw [t_cnd (by simp [lk, keepEnv, Od.v]; exact rfl)] | rw [t_blk]))
  rw [lp_exit]
  simp [keepEnv, lk]
theorem loop5b (hA : ∀ h, vw h 1 A = some ds) (hd : RowsL ds rs) (hr : rs.length ≤ 60) (H : Heap) (y10 y11 : DV) :
    ∀ (m i : Nat), rs.length - i ≤ m → i ≤ rs.length → ∃ y ex, C X (.loop lp5_1) [(0, .int .i64 col), (2, A), (10, y10), (11, y11), (14, .int .i64 (hasN col rs i : Nat)), (15, .int .i64 i)] H = some (.exit 2, (0, .int .i64 col) :: (2, A) :: (10, y10) :: (11, y11) :: (14, .int .i64 (hasN col rs rs.length : Nat)) :: (15, y) :: ex, H) := by
  intro m
  have hdl := hd.1
  have hv := hA H
  induction m with
  | zero =>
    intro i hm hi
    obtain rfl : i = rs.length := by omega
    refine ⟨.int .i64 rs.length, [(58, .bool false)], ?_⟩
    rw [t_loop]
    generalize hasN col rs rs.length = hn
    unfold lp5_1
    (repeat (first | rw [s_assoc] | rw [s_seq_reg (by simp [evOps, evOp_n, evOp_r, evOp_d, evOp_dr, kpo_refl, kpo_app, cnd_some, cnd_pair, cnd_cnd_t, cnd_cnd_f, cnd_same, cnd_dvb, cnd_and, cnd_or, ↓evx_pick, gd_bool, gd_boolf, gd_tup, cnd_t, cnd_f, evTo, isCall, evx, put, lk, Od.v, keepEnv, enterEnv, ldx_ref, rdc, binx, binI, binS, unx, eqk, DV.isU, DV.cells, hget, hget0, hset, hset0, stx_ref, splice, DV.one, fillp, mat, eqcs, eqs, hv, hdl]; exact ⟨rfl, rfl⟩)] | rw [s_cnd (by simp [lk, keepEnv, Od.v, hv, hdl]; exact rfl)] | rw [cnd_t] | rw [cnd_f] | rw [s_skip] | rw [s_ret] | rw [s_exit] | rw [C_ret] | rw [C_exit] | rw [C_skip] | rw [blk_ret] | rw [blk_norm] | rw [blk_exit] | rw [blk_exit' (by decide)] | rw [blkT_ret] | rw [blkT_norm] | rw [blkT_exit] | rw [blkT_exit' (by decide)] | rw [s_blk] | rw [s_reg (by simp [evOps, evOp_n, evOp_r, evOp_d, evOp_dr, kpo_refl, kpo_app, cnd_some, cnd_pair, cnd_cnd_t, cnd_cnd_f, cnd_same, cnd_dvb, cnd_and, cnd_or, ↓evx_pick, gd_bool, gd_boolf, gd_tup, cnd_t, cnd_f, evTo, isCall, evx, put, lk, Od.v, keepEnv, enterEnv, ldx_ref, rdc, binx, binI, binS, unx, eqk, DV.isU, DV.cells, hget, hget0, hset, hset0, stx_ref, splice, DV.one, fillp, mat, eqcs, eqs, hv, hdl]; exact ⟨rfl, rfl⟩)] | rw [t_cnd (by simp [lk, keepEnv, Od.v, hv, hdl]; exact rfl)] | rw [t_blk]))
    rw [lp_exit]
    simp [keepEnv, lk]
  | succ m ih =>
    intro i hm hi
    by_cases c1 : i < rs.length
    · obtain ⟨I, hI⟩ : ∃ I, I = i + 1 := ⟨_, rfl⟩
      have z1 : IntKind.i64.wrap ((i : Int) + 1) = (I : Int) := (by rw [wrap64 _ (by omega) (by omega)]; omega)
      have c1' : i < ds.length := by omega
      have hRow := hd.2 i _ _ (List.getElem?_eq_getElem c1') (List.getElem?_eq_getElem c1)
      have hs := hasN_succ col rs i (List.getElem?_eq_getElem c1)
      have hle := hasN_le col rs i
      rw [← hI] at hs
      obtain ⟨d, hdg⟩ : ∃ d, ds[i] = d := ⟨_, rfl⟩
      obtain ⟨vs, hvs⟩ : ∃ vs, rs[i] = vs := ⟨_, rfl⟩
      rw [hdg, hvs] at hRow
      rw [hvs] at hs
      have hc : C X lp5_1 [(0, .int .i64 col), (2, A), (10, y10), (11, y11), (14, .int .i64 (hasN col rs i : Nat)), (15, .int .i64 i)] H = some (.norm, [(0, .int .i64 col), (2, A), (10, y10), (11, y11), (14, .int .i64 (hasN col rs I : Nat)), (15, .int .i64 I)], H) := by
        clear ih hA hd hvs
        have vwl : ∀ cv, vw H 4 (.list 4 (vs.map V.d) cv) = some (vs.map V.d) := fun _ => rfl
        have vwn : vw H 4 .nils = some [] := rfl
        generalize hasN col rs i = n1 at *
        generalize hasN col rs I = n2 at *
        by_cases cc : 0 ≤ col
        · by_cases cl : col < (vs.length : Int)
          · have e : hasP col vs = true := by simp [hasP, cc, cl]
            rw [e] at hs
            have z2 : IntKind.i64.wrap ((n1 : Int) + 1) = (n2 : Int) := by
              simp only [b2n] at hs
              rw [wrap64 _ (by omega) (by omega)]; simp at hs; omega
            rcases hRow with ⟨cv, rfl⟩ | ⟨rfl, rfl⟩
            · unfold lp5_1
              (repeat (first | rw [s_assoc] | rw [s_seq_reg (by simp [evOps, evOp_n, evOp_r, evOp_d, evOp_dr, kpo_refl, kpo_app, cnd_some, cnd_pair, cnd_cnd_t, cnd_cnd_f, cnd_same, cnd_dvb, cnd_and, cnd_or, ↓evx_pick, gd_bool, gd_boolf, gd_tup, cnd_t, cnd_f, evTo, isCall, evx, put, lk, Od.v, keepEnv, enterEnv, ldx_ref, rdc, binx, binI, binS, unx, eqk, DV.isU, DV.cells, hget, hget0, hset, hset0, stx_ref, splice, DV.one, fillp, mat, eqcs, eqs, c1, c1', z1, z2, hv, hdl, hdg, ldx, vwl, vwn, cc, cl]; exact ⟨rfl, rfl⟩)] | rw [s_cnd (by simp [lk, keepEnv, Od.v, c1, c1', z1, z2, hv, hdl, hdg, ldx, vwl, vwn, cc, cl]; exact rfl)] | rw [cnd_t] | rw [cnd_f] | rw [s_skip] | rw [s_ret] | rw [s_exit] | rw [C_ret] | rw [C_exit] | rw [C_skip] | rw [blk_ret] | rw [blk_norm] | rw [blk_exit] | rw [blk_exit' (by decide)] | rw [blkT_ret] | rw [blkT_norm] | rw [blkT_exit] | rw [blkT_exit' (by decide)] | rw [s_blk] | rw [s_reg (by simp [evOps, evOp_n, evOp_r, evOp_d, evOp_dr, kpo_refl, kpo_app, cnd_some, cnd_pair, cnd_cnd_t, cnd_cnd_f, cnd_same, cnd_dvb, cnd_and, cnd_or, ↓evx_pick, gd_bool, gd_boolf, gd_tup, cnd_t, cnd_f, evTo, isCall, evx, put, lk, Od.v, keepEnv, enterEnv, ldx_ref, rdc, binx, binI, binS, unx, eqk, DV.isU, DV.cells, hget, hget0, hset, hset0, stx_ref, splice, DV.one, fillp, mat, eqcs, eqs, c1, c1', z1, z2, hv, hdl, hdg, ldx, vwl, vwn, cc, cl]; exact ⟨rfl, rfl⟩)] | rw [t_cnd (by simp [lk, keepEnv, Od.v, c1, c1', z1, z2, hv, hdl, hdg, ldx, vwl, vwn, cc, cl]; exact rfl)] | rw [t_blk]))
              simp [keepEnv, lk]
            · simp at cl; omega
          · have e : hasP col vs = false := by simp [hasP, cl]
            rw [e] at hs
            have z2 : n2 = n1 := by simpa [b2n] using hs
            rcases hRow with ⟨cv, rfl⟩ | ⟨rfl, rfl⟩
            · unfold lp5_1
              (repeat (first | rw [s_assoc] | rw [s_seq_reg (by simp [evOps, evOp_n, evOp_r, evOp_d, evOp_dr, kpo_refl, kpo_app, cnd_some, cnd_pair, cnd_cnd_t, cnd_cnd_f, cnd_same, cnd_dvb, cnd_and, cnd_or, ↓evx_pick, gd_bool, gd_boolf, gd_tup, cnd_t, cnd_f, evTo, isCall, evx, put, lk, Od.v, keepEnv, enterEnv, ldx_ref, rdc, binx, binI, binS, unx, eqk, DV.isU, DV.cells, hget, hget0, hset, hset0, stx_ref, splice, DV.one, fillp, mat, eqcs, eqs, c1, c1', z1, hv, hdl, hdg, ldx, vwl, vwn, cc, cl]; exact ⟨rfl, rfl⟩)] | rw [s_cnd (by simp [lk, keepEnv, Od.v, c1, c1', z1, hv, hdl, hdg, ldx, vwl, vwn, cc, cl]; exact rfl)] | rw [cnd_t] | rw [cnd_f] | rw [s_skip] | rw [s_ret] | rw [s_exit] | rw [C_ret] | rw [C_exit] | rw [C_skip] | rw [blk_ret] | rw [blk_norm] | rw [blk_exit] | rw [blk_exit' (by decide)] | rw [blkT_ret] | rw [blkT_norm] | rw [blkT_exit] | rw [blkT_exit' (by decide)] | rw [s_blk] | rw [s_reg (by simp [evOps, evOp_n, evOp_r, evOp_d, evOp_dr, kpo_refl, kpo_app, cnd_some, cnd_pair, cnd_cnd_t, cnd_cnd_f, cnd_same, cnd_dvb, cnd_and, cnd_or, ↓evx_pick, gd_bool, gd_boolf, gd_tup, cnd_t, cnd_f, evTo, isCall, evx, put, lk, Od.v, keepEnv, enterEnv, ldx_ref, rdc, binx, binI, binS, unx, eqk, DV.isU, DV.cells, hget, hget0, hset, hset0, stx_ref, splice, DV.one, fillp, mat, eqcs, eqs, c1, c1', z1, hv, hdl, hdg, ldx, vwl, vwn, cc, cl]; exact ⟨rfl, rfl⟩)] | rw [t_cnd (by simp [lk, keepEnv, Od.v, c1, c1', z1, hv, hdl, hdg, ldx, vwl, vwn, cc, cl]; exact rfl)] | rw [t_blk]))
              simp [keepEnv, lk, z2]
            · have cl' : ¬ col < 0 := by omega
              unfold lp5_1
              (repeat (first | rw [s_assoc] | rw [s_seq_reg (by simp [evOps, evOp_n, evOp_r, evOp_d, evOp_dr, kpo_refl, kpo_app, cnd_some, cnd_pair, cnd_cnd_t, cnd_cnd_f, cnd_same, cnd_dvb, cnd_and, cnd_or, ↓evx_pick, gd_bool, gd_boolf, gd_tup, cnd_t, cnd_f, evTo, isCall, evx, put, lk, Od.v, keepEnv, enterEnv, ldx_ref, rdc, binx, binI, binS, unx, eqk, DV.isU, DV.cells, hget, hget0, hset, hset0, stx_ref, splice, DV.one, fillp, mat, eqcs, eqs, c1, c1', z1, hv, hdl, hdg, ldx, vwl, vwn, cc, cl']; exact ⟨rfl, rfl⟩)] | rw [s_cnd (by simp [lk, keepEnv, Od.v, c1, c1', z1, hv, hdl, hdg, ldx, vwl, vwn, cc, cl']; exact rfl)] | rw [cnd_t] | rw [cnd_f] | rw [s_skip] | rw [s_ret] | rw [s_exit] | rw [C_ret] | rw [C_exit] | rw [C_skip] | rw [blk_ret] | rw [blk_norm] | rw [blk_exit] | rw [blk_exit' (by decide)] | rw [blkT_ret] | rw [blkT_norm] | rw [blkT_exit] | rw [blkT_exit' (by decide)] | rw [s_blk] | rw [s_reg (by simp [evOps, evOp_n, evOp_r, evOp_d, evOp_dr, kpo_refl, kpo_app, cnd_some, cnd_pair, cnd_cnd_t, cnd_cnd_f, cnd_same, cnd_dvb, cnd_and, cnd_or, ↓evx_pick, gd_bool, gd_boolf, gd_tup, cnd_t, cnd_f, evTo, isCall, evx, put, lk, Od.v, keepEnv, enterEnv, ldx_ref, rdc, binx, binI, binS, unx, eqk, DV.isU, DV.cells, hget, hget0, hset, hset0, stx_ref, splice, DV.one, fillp, mat, eqcs, eqs, c1, c1', z1, hv, hdl, hdg, ldx, vwl, vwn, cc, cl']; exact ⟨rfl, rfl⟩)] | rw [t_cnd (by simp [lk, keepEnv, Od.v, c1, c1', z1, hv, hdl, hdg, ldx, vwl, vwn, cc, cl']; exact rfl)] | rw [t_blk]))
              simp [keepEnv, lk, z2]
        · have e : hasP col vs = false := by simp [hasP, cc]
          rw [e] at hs
          have z2 : n2 = n1 := by simpa [b2n] using hs
          unfold lp5_1
          (repeat (first | rw [s_assoc] | rw [s_seq_reg (by simp [evOps, evOp_n, evOp_r, evOp_d, evOp_dr, kpo_refl, kpo_app, cnd_some, cnd_pair, cnd_cnd_t, cnd_cnd_f, cnd_same, cnd_dvb, cnd_and, cnd_or, ↓evx_pick, gd_bool, gd_boolf, gd_tup, cnd_t, cnd_f, evTo, isCall, evx, put, lk, Od.v, keepEnv, enterEnv, ldx_ref, rdc, binx, binI, binS, unx, eqk, DV.isU, DV.cells, hget, hget0, hset, hset0, stx_ref, splice, DV.one, fillp, mat, eqcs, eqs, c1, c1', z1, hv, hdl, hdg, ldx, vwl, vwn, cc]; exact ⟨rfl, rfl⟩)] | rw [s_cnd (by simp [lk, keepEnv, Od.v, c1, c1', z1, hv, hdl, hdg, ldx, vwl, vwn, cc]; exact rfl)] | rw [cnd_t] | rw [cnd_f] | rw [s_skip] | rw [s_ret] | rw [s_exit] | rw [C_ret] | rw [C_exit] | rw [C_skip] | rw [blk_ret] | rw [blk_norm] | rw [blk_exit] | rw [blk_exit' (by decide)] | rw [blkT_ret] | rw [blkT_norm] | rw [blkT_exit] | rw [blkT_exit' (by decide)] | rw [s_blk] | rw [s_reg (by simp [evOps, evOp_n, evOp_r, evOp_d, evOp_dr, kpo_refl, kpo_app, cnd_some, cnd_pair, cnd_cnd_t, cnd_cnd_f, cnd_same, cnd_dvb, cnd_and, cnd_or, ↓evx_pick, gd_bool, gd_boolf, gd_tup, cnd_t, cnd_f, evTo, isCall, evx, put, lk, Od.v, keepEnv, enterEnv, ldx_ref, rdc, binx, binI, binS, unx, eqk, DV.isU, DV.cells, hget, hget0, hset, hset0, stx_ref, splice, DV.one, fillp, mat, eqcs, eqs, c1, c1', z1, hv, hdl, hdg, ldx, vwl, vwn, cc]; exact ⟨rfl, rfl⟩)] | rw [t_cnd (by simp [lk, keepEnv, Od.v, c1, c1', z1, hv, hdl, hdg, ldx, vwl, vwn, cc]; exact rfl)] | rw [t_blk]))
          simp [keepEnv, lk, z2]
      rw [t_loop, hc, lp_norm]
      exact ih I (by omega) (by omega)
    · exact ih i (by omega) hi
set_option maxHeartbeats 2000000 in
theorem run5 (hA : ∀ h, vw h 1 A = some ds) (hd : RowsL ds rs) : E X 5 [.int .i64 col, .agg [.int .i64 k, .int .i64 n, .str s, .bool t], A] [] = some (.bool true, []) := by
  have e9 := run9 [.box 39 [.int .i64 k, .int .i64 n, .str s, .bool t]]
  have e11 := run11 (hA [.box 39 [.int .i64 k, .int .i64 n, .str s, .bool t]]) hd
  cases hl : lightR rs
  · rw [hl] at e11
    rw [E_go (X := X) _ b5 _ rfl rfl]; unfold b5; (repeat (first | rw [s_assoc] | rw [s_seq_reg (by simp [evOps, evOp_n, evOp_r, evOp_d, evOp_dr, kpo_refl, kpo_app, cnd_some, cnd_pair, cnd_cnd_t, cnd_cnd_f, cnd_same, cnd_dvb, cnd_and, cnd_or, ↓evx_pick, gd_bool, gd_boolf, gd_tup, cnd_t, cnd_f, evTo, isCall, evx, put, lk, Od.v, keepEnv, enterEnv, ldx_ref, rdc, binx, binI, binS, unx, eqk, DV.isU, DV.cells, hget, hget0, hset, hset0, stx_ref, splice, DV.one, fillp, mat, eqcs, eqs, e9, e11]; exact ⟨rfl, rfl⟩)] | rw [s_cnd (by simp [lk, keepEnv, Od.v, e9, e11]; exact rfl)] | rw [cnd_t] | rw [cnd_f] | rw [s_skip] | rw [s_ret] | rw [s_exit] | rw [C_ret] | rw [C_exit] | rw [C_skip] | rw [blk_ret] | rw [blk_norm] | rw [blk_exit] | rw [blk_exit' (by decide)] | rw [blkT_ret] | rw [blkT_norm] | rw [blkT_exit] | rw [blkT_exit' (by decide)] | rw [s_blk] | rw [s_reg (by simp [evOps, evOp_n, evOp_r, evOp_d, evOp_dr, kpo_refl, kpo_app, cnd_some, cnd_pair, cnd_cnd_t, cnd_cnd_f, cnd_same, cnd_dvb, cnd_and, cnd_or, ↓evx_pick, gd_bool, gd_boolf, gd_tup, cnd_t, cnd_f, evTo, isCall, evx, put, lk, Od.v, keepEnv, enterEnv, ldx_ref, rdc, binx, binI, binS, unx, eqk, DV.isU, DV.cells, hget, hget0, hset, hset0, stx_ref, splice, DV.one, fillp, mat, eqcs, eqs, e9, e11]; exact ⟨rfl, rfl⟩)] | rw [t_cnd (by simp [lk, keepEnv, Od.v, e9, e11]; exact rfl)] | rw [t_blk])); simp [ends_ret, ends_norm, resL, evOps, evOp_n, evOp_r, evOp_d, evOp_dr, kpo_refl, kpo_app, cnd_some, cnd_pair, cnd_cnd_t, cnd_cnd_f, cnd_same, cnd_dvb, cnd_and, cnd_or, ↓evx_pick, gd_bool, gd_boolf, gd_tup, cnd_t, cnd_f, evTo, isCall, evx, put, lk, Od.v, keepEnv, enterEnv, ldx_ref, rdc, binx, binI, binS, unx, eqk, DV.isU, DV.cells, hget, hget0, hset, hset0, stx_ref, splice, DV.one, fillp, mat, eqcs, eqs, fin, fz0, fz1, fzT, fzL, nlt, e9, e11]
  rw [hl] at e11
  by_cases hsz : s.size > 300
  · have hsz' : (300 : Int) < (s.size : Int) := by omega
    rw [E_go (X := X) _ b5 _ rfl rfl]; unfold b5; (repeat (first | rw [s_assoc] | rw [s_seq_reg (by simp [evOps, evOp_n, evOp_r, evOp_d, evOp_dr, kpo_refl, kpo_app, cnd_some, cnd_pair, cnd_cnd_t, cnd_cnd_f, cnd_same, cnd_dvb, cnd_and, cnd_or, ↓evx_pick, gd_bool, gd_boolf, gd_tup, cnd_t, cnd_f, evTo, isCall, evx, put, lk, Od.v, keepEnv, enterEnv, ldx_ref, rdc, binx, binI, binS, unx, eqk, DV.isU, DV.cells, hget, hget0, hset, hset0, stx_ref, splice, DV.one, fillp, mat, eqcs, eqs, e9, e11, hsz, hsz']; exact ⟨rfl, rfl⟩)] | rw [s_cnd (by simp [lk, keepEnv, Od.v, e9, e11, hsz, hsz']; exact rfl)] | rw [cnd_t] | rw [cnd_f] | rw [s_skip] | rw [s_ret] | rw [s_exit] | rw [C_ret] | rw [C_exit] | rw [C_skip] | rw [blk_ret] | rw [blk_norm] | rw [blk_exit] | rw [blk_exit' (by decide)] | rw [blkT_ret] | rw [blkT_norm] | rw [blkT_exit] | rw [blkT_exit' (by decide)] | rw [s_blk] | rw [s_reg (by simp [evOps, evOp_n, evOp_r, evOp_d, evOp_dr, kpo_refl, kpo_app, cnd_some, cnd_pair, cnd_cnd_t, cnd_cnd_f, cnd_same, cnd_dvb, cnd_and, cnd_or, ↓evx_pick, gd_bool, gd_boolf, gd_tup, cnd_t, cnd_f, evTo, isCall, evx, put, lk, Od.v, keepEnv, enterEnv, ldx_ref, rdc, binx, binI, binS, unx, eqk, DV.isU, DV.cells, hget, hget0, hset, hset0, stx_ref, splice, DV.one, fillp, mat, eqcs, eqs, e9, e11, hsz, hsz']; exact ⟨rfl, rfl⟩)] | rw [t_cnd (by simp [lk, keepEnv, Od.v, e9, e11, hsz, hsz']; exact rfl)] | rw [t_blk])); simp [ends_ret, ends_norm, resL, evOps, evOp_n, evOp_r, evOp_d, evOp_dr, kpo_refl, kpo_app, cnd_some, cnd_pair, cnd_cnd_t, cnd_cnd_f, cnd_same, cnd_dvb, cnd_and, cnd_or, ↓evx_pick, gd_bool, gd_boolf, gd_tup, cnd_t, cnd_f, evTo, isCall, evx, put, lk, Od.v, keepEnv, enterEnv, ldx_ref, rdc, binx, binI, binS, unx, eqk, DV.isU, DV.cells, hget, hget0, hset, hset0, stx_ref, splice, DV.one, fillp, mat, eqcs, eqs, fin, fz0, fz1, fzT, fzL, nlt, e9, e11, hsz, hsz']
  have hsz' : ¬ (300 : Int) < (s.size : Int) := by omega
  have hr : rs.length ≤ 60 := by simp [lightR] at hl; exact hl.1
  obtain ⟨W, f1, q1⟩ := run22 (A := .nils) (l := []) (H := [.box 39 [.int .i64 k, .int .i64 n, .str s, .bool t]]) (fun L => rfl) (fun x hx => by cases hx) (by simp)
  have o1 := q1.one
  have q1 : WL W [] := q1
  obtain ⟨h', y, ex, hc, b4, w4, l4⟩ := loop5 (A := A) (col := col) (k := k) (n := n) (s := s) (t := t) (h := [.box 39 [.int .i64 k, .int .i64 n, .str s, .bool t], .box 34 [W]]) hA hd hr rfl rfl q1
  obtain ⟨y', ex', hc'⟩ := loop5b (A := A) (col := col) hA hd hr h' (.int .i64 (hasN col rs rs.length : Nat)) (.ref 1 0) rs.length 0 (by omega) (by omega)
  have hz : hasN col rs 0 = 0 := rfl
  rw [hz, show ((0 : Nat) : Int) = 0 from rfl] at hc'
  have e23 := run23 (.inl rfl) w4 (by omega) h'
  rw [all_cnt] at e23
  generalize allW col ⟨k, n, s, t⟩ rs = aw at *
  generalize hasN col rs rs.length = hn at *
  unfold lp5_0 at hc
  unfold lp5_1 at hc'
  clear hl hd hr q1 w4 l4 hz
  rw [E_go (X := X) _ b5 _ rfl rfl]; unfold b5
  have y1 : ∀ h, eltL [.int .i64 7, .int .i64 3, .int .i64 1, .int .i64 5] h = some ([.int .i64 7, .int .i64 3, .int .i64 1, .int .i64 5], h) := fun _ => rfl
  have y2 : ∀ a, Wc 1 (.int .i64 a) := fun a => by simp [Wc, DV.cells, DV.one]
  have y3 : ∀ a, Nr (.int .i64 a) := fun a => .int _ _
  (repeat (first | rw [s_assoc] | rw [s_seq_reg (by simp [evOps, evOp_n, evOp_r, evOp_d, evOp_dr, kpo_refl, kpo_app, cnd_some, cnd_pair, cnd_cnd_t, cnd_cnd_f, cnd_same, cnd_dvb, cnd_and, cnd_or, ↓evx_pick, gd_bool, gd_boolf, gd_tup, cnd_t, cnd_f, evTo, isCall, evx, put, lk, Od.v, keepEnv, enterEnv, ldx_ref, rdc, binx, binI, binS, unx, eqk, DV.isU, DV.cells, hget, hget0, hset, hset0, stx_ref, splice, fillp, mat, eqcs, eqs, one_bool, one_int, one_str, one_nilp, one_ref, one_elem, one_nils, one_list, one_row, one_nilm, one_map, one_nilf, one_func, one_nili, one_ifc, one_agg, one_tup, one_undef, one_fresh, e9, e11, hsz, hsz', f1, o1, y1, y2, y3]; exact ⟨rfl, rfl⟩)] | rw [s_cnd (by simp [lk, keepEnv, Od.v, e9, e11, hsz, hsz', f1, o1, y1, y2, y3]; exact rfl)] | rw [cnd_t] | rw [cnd_f] | rw [s_skip] | rw [s_ret] | rw [s_exit] | rw [C_ret] | rw [C_exit] | rw [C_skip] | rw [blk_ret] | rw [blk_norm] | rw [blk_exit] | rw [blk_exit' (by decide)] | rw [blkT_ret] | rw [blkT_norm] | rw [blkT_exit] | rw [blkT_exit' (by decide)] | rw [s_blk] | rw [s_reg (by simp [evOps, evOp_n, evOp_r, evOp_d, evOp_dr, kpo_refl, kpo_app, cnd_some, cnd_pair, cnd_cnd_t, cnd_cnd_f, cnd_same, cnd_dvb, cnd_and, cnd_or, ↓evx_pick, gd_bool, gd_boolf, gd_tup, cnd_t, cnd_f, evTo, isCall, evx, put, lk, Od.v, keepEnv, enterEnv, ldx_ref, rdc, binx, binI, binS, unx, eqk, DV.isU, DV.cells, hget, hget0, hset, hset0, stx_ref, splice, fillp, mat, eqcs, eqs, one_bool, one_int, one_str, one_nilp, one_ref, one_elem, one_nils, one_list, one_row, one_nilm, one_map, one_nilf, one_func, one_nili, one_ifc, one_agg, one_tup, one_undef, one_fresh, e9, e11, hsz, hsz', f1, o1, y1, y2, y3]; exact ⟨rfl, rfl⟩)] | rw [t_cnd (by simp [lk, keepEnv, Od.v, e9, e11, hsz, hsz', f1, o1, y1, y2, y3]; exact rfl)] | rw [t_blk]))
  (try simp only [keepEnv, List.map_cons, List.map_nil, lk, reduceIte, Nat.reduceEqDiff, Nat.zero_ne_one, Nat.one_ne_zero])
  rw [hc]
  clear hc
  (repeat (first | rw [s_assoc] | rw [s_seq_reg (by simp [evOps, evOp_n, evOp_r, evOp_d, evOp_dr, kpo_refl, kpo_app, cnd_some, cnd_pair, cnd_cnd_t, cnd_cnd_f, cnd_same, cnd_dvb, cnd_and, cnd_or, ↓evx_pick, gd_bool, gd_boolf, gd_tup, cnd_t, cnd_f, evTo, isCall, evx, put, lk, Od.v, keepEnv, enterEnv, ldx_ref, rdc, binx, binI, binS, unx, eqk, DV.isU, DV.cells, hget, hget0, hset, hset0, stx_ref, splice, DV.one, fillp, mat, eqcs, eqs]; exact ⟨rfl, rfl⟩)] | rw [s_cnd (by simp [lk, keepEnv, Od.v]; exact rfl)] | rw [cnd_t] | rw [cnd_f] | rw [s_skip] | rw [s_ret] | rw [s_exit] | rw [C_ret] | rw [C_exit] | rw [C_skip] | rw [blk_ret] | rw [blk_norm] | rw [blk_exit] | rw [blk_exit' (by decide)] | rw [blkT_ret] | rw [blkT_norm] | rw [blkT_exit] | rw [blkT_exit' (by decide)] | rw [s_blk] | rw [s_reg (by simp [evOps, evOp_n, evOp_r, evOp_d, evOp_dr, kpo_refl, kpo_app, cnd_some, cnd_pair, cnd_cnd_t, cnd_cnd_f, cnd_same, cnd_dvb, cnd_and, cnd_or, ↓evx_pick, gd_bool, gd_boolf, gd_tup, cnd_t, cnd_f, evTo, isCall, evx, put, lk, Od.v, keepEnv, enterEnv, ldx_ref, rdc, binx, binI, binS, unx, eqk, DV.isU, DV.cells, hget, hget0, hset, hset0, stx_ref, splice, DV.one, fillp, mat, eqcs, eqs]; exact ⟨rfl, rfl⟩)] | rw [t_cnd (by simp [lk, keepEnv, Od.v]; exact rfl)] | rw [t_blk]))
  (try simp only [keepEnv, List.map_cons, List.map_nil, lk, reduceIte, Nat.reduceEqDiff, Nat.zero_ne_one, Nat.one_ne_zero])
  rw [hc']
  clear hc'
  (repeat (first | rw [s_assoc] | rw [s_seq_reg (by simp [evOps, evOp_n, evOp_r, evOp_d, evOp_dr, kpo_refl, kpo_app, cnd_some, cnd_pair, cnd_cnd_t, cnd_cnd_f, cnd_same, cnd_dvb, cnd_and, cnd_or, ↓evx_pick, gd_bool, gd_boolf, gd_tup, cnd_t, cnd_f, evTo, isCall, evx, put, lk, Od.v, keepEnv, enterEnv, ldx_ref, rdc, binx, binI, binS, unx, eqk, DV.isU, DV.cells, hget, hget0, hset, hset0, stx_ref, splice, DV.one, fillp, mat, eqcs, eqs, b4, e23]; exact ⟨rfl, rfl⟩)] | rw [s_cnd (by simp [lk, keepEnv, Od.v, b4, e23]; exact rfl)] | rw [cnd_t] | rw [cnd_f] | rw [s_skip] | rw [s_ret] | rw [s_exit] | rw [C_ret] | rw [C_exit] | rw [C_skip] | rw [blk_ret] | rw [blk_norm] | rw [blk_exit] | rw [blk_exit' (by decide)] | rw [blkT_ret] | rw [blkT_norm] | rw [blkT_exit] | rw [blkT_exit' (by decide)] | rw [s_blk] | rw [s_reg (by simp [evOps, evOp_n, evOp_r, evOp_d, evOp_dr, kpo_refl, kpo_app, cnd_some, cnd_pair, cnd_cnd_t, cnd_cnd_f, cnd_same, cnd_dvb, cnd_and, cnd_or, ↓evx_pick, gd_bool, gd_boolf, gd_tup, cnd_t, cnd_f, evTo, isCall, evx, put, lk, Od.v, keepEnv, enterEnv, ldx_ref, rdc, binx, binI, binS, unx, eqk, DV.isU, DV.cells, hget, hget0, hset, hset0, stx_ref, splice, DV.one, fillp, mat, eqcs, eqs, b4, e23]; exact ⟨rfl, rfl⟩)] | rw [t_cnd (by simp [lk, keepEnv, Od.v, b4, e23]; exact rfl)] | rw [t_blk]))
  simp [ends_ret, ends_norm, resL, evOps, evOp_n, evOp_r, evOp_d, evOp_dr, kpo_refl, kpo_app, cnd_some, cnd_pair, cnd_cnd_t, cnd_cnd_f, cnd_same, cnd_dvb, cnd_and, cnd_or, ↓evx_pick, gd_bool, gd_boolf, gd_tup, cnd_t, cnd_f, evTo, isCall, evx, put, lk, Od.v, keepEnv, enterEnv, ldx_ref, rdc, binx, binI, binS, unx, eqk, DV.isU, DV.cells, hget, hget0, hset, hset0, stx_ref, splice, DV.one, fillp, mat, eqcs, eqs, fin, fz0, fz1, fzT, fzL, nlt, b4]
end
end Go.Proofs.YtfgnefnpfgdliaaDoor
