/- Ideal runs: the rows for which a node of a column holds. -/
import Derived.Test.YtfgnefnpfgdliaaDoorFltA
namespace Go.Proofs.YtfgnefnpfgdliaaDoor
set_option linter.unusedVariables false
set_option linter.unusedSimpArgs false
set_option maxRecDepth 10000
/-- A row, that is only read. -/
def RowL (d : DV) (vs : List V) : Prop := (∃ c, d = .list 4 (vs.map V.d) c) ∨ (d = .nils ∧ vs = [])
theorem RowL.vw {d : DV} {vs : List V} (h : RowL d vs) (g : Heap) : vw g 4 d = some (vs.map V.d) := by
  rcases h with ⟨c, rfl⟩ | ⟨rfl, rfl⟩ <;> rfl
def RowsL (ds : List DV) (rs : List (List V)) : Prop := ds.length = rs.length ∧ ∀ (i : Nat) (d : DV) (vs : List V), ds[i]? = some d → rs[i]? = some vs → RowL d vs
/-- Does a node of a column hold for a row? -/
def leafP (x : N) (vs : List V) : Bool := decide (0 ≤ x.col) && match vs[x.col.toNat]? with
  | some v => oneP x v
  | none => false
def leafI (x : N) (rs : List (List V)) (n : Nat) : List Nat := (List.range n).filter fun i => leafP x (rs.getD i [])
/-- Where numbers lie that are collected. -/
def MadeI (h : Heap) (H : Heap) (w : DV) (ws : List Nat) : Prop := (w = .nils ∧ ws = [] ∧ h = H) ∨ ∃ g, w = .row H.length g 0 ws.length false ∧ h = H ++ [.row 3 1 g (ws.map iD)]
theorem MadeI.vw {h H : Heap} {w : DV} {ws : List Nat} (hm : MadeI h H w ws) (L : Heap) : vw (h ++ L) 1 w = some (ws.map iD) := by
  rcases hm with ⟨rfl, rfl, rfl⟩ | ⟨g, rfl, rfl⟩
  · rfl
  · simp [Go.Proofs.YtfgnefnpfgdliaaDoor.vw, hget0, List.take_of_length_le]
theorem MadeI.app {h H : Heap} {w : DV} {ws : List Nat} (hm : MadeI h H w ws) (hb : ws.length ≤ 1000000) (x : Nat) : ∃ w' h', appx h 3 1 8 w (ws.map iD) [iD x] = some (w', h') ∧ MadeI h' H w' (ws ++ [x]) := by
  have hle : ((ws.map iD).length + [iD x].length) * 8 ≤ 140737488355328 := by simp; omega
  rcases hm with ⟨rfl, rfl, rfl⟩ | ⟨g, rfl, rfl⟩
  · exact ⟨_, _, by simp [appx], .inr ⟨0, rfl, rfl⟩⟩
  · refine ⟨.row H.length (g + 1) 0 (ws.length + 1) false, H ++ [.row 3 1 (g + 1) ((ws ++ [x]).map iD)], ?_, .inr ⟨g + 1, by simp, rfl⟩⟩
    simp only [appx, if_pos hle, hget0]
    simp [hset0]
theorem MadeI.ext {h H : Heap} {w : DV} {ws : List Nat} (hm : MadeI h H w ws) : ∃ L, h = H ++ L := by
  rcases hm with ⟨_, _, rfl⟩ | ⟨g, _, rfl⟩
  · exact ⟨[], by simp⟩
  · exact ⟨_, rfl⟩
theorem leafI_succ (x : N) (rs : List (List V)) (i : Nat) {vs : List V} (h : rs[i]? = some vs) : leafI x rs (i + 1) = if leafP x vs = true then leafI x rs i ++ [i] else leafI x rs i := by
  simp only [leafI, List.range_succ, List.filter_append, List.filter_cons, List.filter_nil, List.getD, h, Option.getD_some]
  split <;> simp
theorem leafI_len (x : N) (rs : List (List V)) (i : Nat) : (leafI x rs i).length ≤ i := by
  have := List.length_filter_le (fun i => leafP x (rs.getD i [])) (List.range i)
  simpa [leafI] using this
theorem loop35 {H : Heap} {A : DV} {ds : List DV} {rs : List (List V)} (x : N) {p q : Nat} (hp : H[p]? = some (.box 41 x.d.cells)) (hq : q < H.length) (hA : ∀ L, vw (H ++ L) 1 A = some ds) (hd : RowsL ds rs) (hll : rs.length ≤ 1000000) :
    ∀ (m i : Nat) (w : DV) (h : Heap), rs.length - i ≤ m → i ≤ rs.length → MadeI h H w (leafI x rs i) →
      ∃ y ex w' h', C X (.loop lp35_0) [(3, .ref p 0), (4, .ref q 0), (5, w), (8, A), (9, .int .i64 rs.length), (10, .int .i64 i)] h = some (.exit 0, (3, .ref p 0) :: (4, .ref q 0) :: (5, w') :: (8, A) :: (9, .int .i64 rs.length) :: (10, y) :: ex, h') ∧
        MadeI h' H w' (leafI x rs rs.length) := by
  intro m
  induction m with
  | zero =>
    intro i w h hm hi hM
    obtain rfl : i = rs.length := by omega
    refine ⟨.int .i64 rs.length, [(11, .bool false)], w, h, ?_, hM⟩
    rw [t_loop]
    unfold lp35_0
    (repeat (first | rw [s_assoc] | rw [s_seq_reg (by simp [evOps, evOp_n, evOp_r, evOp_d, evOp_dr, kpo_refl, kpo_app, cnd_some, cnd_pair, cnd_cnd_t, cnd_cnd_f, cnd_same, cnd_dvb, cnd_and, cnd_or, ↓evx_pick, gd_bool, gd_boolf, gd_tup, cnd_t, cnd_f, evTo, isCall, evx, put, lk, Od.v, keepEnv, enterEnv, ldx_ref, rdc, binx, binI, binS, unx, eqk, DV.isU, DV.cells, hget, hget0, hset, hset0, stx_ref, splice, DV.one, fillp, mat, eqcs, eqs]; exact ⟨rfl, rfl⟩)] | rw [s_cnd (by simp [lk, keepEnv, Od.v]; exact rfl)] | rw [cnd_t] | rw [cnd_f] | rw [s_skip] | rw [s_ret] | rw [s_exit] | rw [C_ret] | rw [C_exit] | rw [C_skip] | rw [blk_ret] | rw [blk_norm] | rw [blk_exit] | rw [blk_exit' (by decide)] | rw [blkT_ret] | rw [blkT_norm] | rw [blkT_exit] | rw [blkT_exit' (by decide)] | rw [s_blk] | rw [s_reg (by simp [evOps, evOp_n, evOp_r, evOp_d, evOp_dr, kpo_refl, kpo_app, cnd_some, cnd_pair, cnd_cnd_t, cnd_cnd_f, cnd_same, cnd_dvb, cnd_and, cnd_or, ↓evx_pick, gd_bool, gd_boolf, gd_tup, cnd_t, cnd_f, evTo, isCall, evx, put, lk, Od.v, keepEnv, enterEnv, ldx_ref, rdc, binx, binI, binS, unx, eqk, DV.isU, DV.cells, hget, hget0, hset, hset0, stx_ref, splice, DV.one, fillp, mat, eqcs, eqs]; exact ⟨rfl, rfl⟩)] | rw [t_cnd (by simp [lk, keepEnv, Od.v]; exact rfl)] | rw [t_blk]))
    rw [lp_exit]
    simp [keepEnv, lk]
  | succ m ih =>
    intro i w h hm hi hM
    by_cases c1 : i < rs.length
    · obtain ⟨I, hI⟩ : ∃ I, I = i + 1 := ⟨_, rfl⟩
      have w1 : IntKind.i64.wrap ((i : Int) + 1) = (I : Int) := (by rw [wrap64 _ (by omega) (by omega)]; omega)
      obtain ⟨L, hL⟩ := hM.ext
      have hv : vw h 1 A = some ds := by rw [hL]; exact hA _
      have hvs : rs[i]? = some rs[i] := List.getElem?_eq_getElem c1
      have c1' : i < ds.length := by rw [hd.1]; exact c1
      have hds : ds[i]? = some ds[i] := List.getElem?_eq_getElem c1'
      have hRow := hd.2 i _ _ hds hvs
      have hR := hRow.vw
      have hpb : h[p]? = some (.box 41 x.d.cells) := by rw [hL]; exact hle hp _
      have hlf := leafI_succ x rs i hvs
      have hll' := leafI_len x rs i
      obtain ⟨w', h', ha, hM'⟩ := hM.app (by omega) i
      have hv2 := hM.vw []
      rw [List.append_nil] at hv2
      generalize rs[i] = vs at *
      obtain ⟨d, hdg⟩ : ∃ d, ds[i] = d := ⟨_, rfl⟩
      rw [hdg] at hds hR hRow
      generalize leafI x rs i = l at *
      have key : ∃ w' h', C X lp35_0 [(3, .ref p 0), (4, .ref q 0), (5, w), (8, A), (9, .int .i64 rs.length), (10, .int .i64 i)] h = some (.norm, [(3, .ref p 0), (4, .ref q 0), (5, w'), (8, A), (9, .int .i64 rs.length), (10, .int .i64 I)], h') ∧ MadeI h' H w' (leafI x rs I) := by
        rw [← hI] at hlf
        rw [hlf]
        clear ih hlf hA hd hll
        have e1 := fun v h => run61 x v h
        have z1 : ∀ h, vw h 1 (.list 1 [iD i] true) = some [iD i] := fun _ => rfl
        have z2 : ∀ h, srcOf h 1 (.list 1 [iD i] true) = some [iD i] := fun _ => rfl
        have z3 : Wc 1 (iD i) := by simp [Wc, DV.cells, DV.one]
        have z4 : Nr (iD i) := .int _ _
        have z5 : ∀ h, eltL [iD i] h = some ([iD i], h) := fun _ => rfl
        unfold leafP
        generalize hop : oneP x = op at e1 ⊢
        obtain ⟨ask, col, ⟨vk, vn, vs', vt⟩, xa, xb⟩ := x
        simp only [N.d, V.d, DV.cells] at hpb e1 ⊢
        rcases hRow with ⟨cc, rfl⟩ | ⟨rfl, rfl⟩
        rotate_left
        · refine ⟨w, h, ?_, by simpa using hM⟩
          by_cases c2 : 0 ≤ col
          · have c3 : ¬ col < 0 := by omega
            unfold lp35_0
            (repeat (first | rw [s_assoc] | rw [s_seq_reg (by simp [evOps, evOp_n, evOp_r, evOp_d, evOp_dr, kpo_refl, kpo_app, cnd_some, cnd_pair, cnd_cnd_t, cnd_cnd_f, cnd_same, cnd_dvb, cnd_and, cnd_or, ↓evx_pick, gd_bool, gd_boolf, gd_tup, cnd_t, cnd_f, evTo, isCall, evx, put, lk, Od.v, keepEnv, enterEnv, ldx_ref, rdc, binx, binI, binS, unx, eqk, DV.isU, DV.cells, hget, hget0, hset, hset0, stx_ref, splice, DV.one, fillp, mat, eqcs, eqs, c1, c1', w1, hv, hdg, hR, hpb, c2, c3, ldx]; exact ⟨rfl, rfl⟩)] | rw [s_cnd (by simp [lk, keepEnv, Od.v, c1, c1', w1, hv, hdg, hR, hpb, c2, c3, ldx]; exact rfl)] | rw [cnd_t] | rw [cnd_f] | rw [s_skip] | rw [s_ret] | rw [s_exit] | rw [C_ret] | rw [C_exit] | rw [C_skip] | rw [blk_ret] | rw [blk_norm] | rw [blk_exit] | rw [blk_exit' (by decide)] | rw [blkT_ret] | rw [blkT_norm] | rw [blkT_exit] | rw [blkT_exit' (by decide)] | rw [s_blk] | rw [s_reg (by simp [evOps, evOp_n, evOp_r, evOp_d, evOp_dr, kpo_refl, kpo_app, cnd_some, cnd_pair, cnd_cnd_t, cnd_cnd_f, cnd_same, cnd_dvb, cnd_and, cnd_or, ↓evx_pick, gd_bool, gd_boolf, gd_tup, cnd_t, cnd_f, evTo, isCall, evx, put, lk, Od.v, keepEnv, enterEnv, ldx_ref, rdc, binx, binI, binS, unx, eqk, DV.isU, DV.cells, hget, hget0, hset, hset0, stx_ref, splice, DV.one, fillp, mat, eqcs, eqs, c1, c1', w1, hv, hdg, hR, hpb, c2, c3, ldx]; exact ⟨rfl, rfl⟩)] | rw [t_cnd (by simp [lk, keepEnv, Od.v, c1, c1', w1, hv, hdg, hR, hpb, c2, c3, ldx]; exact rfl)] | rw [t_blk]))
            simp [keepEnv, lk]
          · unfold lp35_0
            (repeat (first | rw [s_assoc] | rw [s_seq_reg (by simp [evOps, evOp_n, evOp_r, evOp_d, evOp_dr, kpo_refl, kpo_app, cnd_some, cnd_pair, cnd_cnd_t, cnd_cnd_f, cnd_same, cnd_dvb, cnd_and, cnd_or, ↓evx_pick, gd_bool, gd_boolf, gd_tup, cnd_t, cnd_f, evTo, isCall, evx, put, lk, Od.v, keepEnv, enterEnv, ldx_ref, rdc, binx, binI, binS, unx, eqk, DV.isU, DV.cells, hget, hget0, hset, hset0, stx_ref, splice, DV.one, fillp, mat, eqcs, eqs, c1, c1', w1, hv, hdg, hR, hpb, c2, ldx]; exact ⟨rfl, rfl⟩)] | rw [s_cnd (by simp [lk, keepEnv, Od.v, c1, c1', w1, hv, hdg, hR, hpb, c2, ldx]; exact rfl)] | rw [cnd_t] | rw [cnd_f] | rw [s_skip] | rw [s_ret] | rw [s_exit] | rw [C_ret] | rw [C_exit] | rw [C_skip] | rw [blk_ret] | rw [blk_norm] | rw [blk_exit] | rw [blk_exit' (by decide)] | rw [blkT_ret] | rw [blkT_norm] | rw [blkT_exit] | rw [blkT_exit' (by decide)] | rw [s_blk] | rw [s_reg (by simp [evOps, evOp_n, evOp_r, evOp_d, evOp_dr, kpo_refl, kpo_app, cnd_some, cnd_pair, cnd_cnd_t, cnd_cnd_f, cnd_same, cnd_dvb, cnd_and, cnd_or, ↓evx_pick, gd_bool, gd_boolf, gd_tup, cnd_t, cnd_f, evTo, isCall, evx, put, lk, Od.v, keepEnv, enterEnv, ldx_ref, rdc, binx, binI, binS, unx, eqk, DV.isU, DV.cells, hget, hget0, hset, hset0, stx_ref, splice, DV.one, fillp, mat, eqcs, eqs, c1, c1', w1, hv, hdg, hR, hpb, c2, ldx]; exact ⟨rfl, rfl⟩)] | rw [t_cnd (by simp [lk, keepEnv, Od.v, c1, c1', w1, hv, hdg, hR, hpb, c2, ldx]; exact rfl)] | rw [t_blk]))
            simp [keepEnv, lk]
        by_cases c2 : 0 ≤ col
        · obtain ⟨j, rfl⟩ : ∃ j : Nat, col = j := ⟨col.toNat, by omega⟩
          by_cases c3 : j < vs.length
          · have hj : vs[(j : Int).toNat]? = some vs[j] := by simp [List.getElem?_eq_getElem c3]
            have hj2 : (vs.map V.d)[j]? = some vs[j].d := by simp [List.getElem?_eq_getElem c3]
            have e2 := e1 vs[j]
            rw [hj]
            cases hq : op vs[j]
            · rw [hq] at e2
              refine ⟨w, h, ?_, by simpa [hq] using hM⟩
              unfold lp35_0
              (repeat (first | rw [s_assoc] | rw [s_seq_reg (by simp [evOps, evOp_n, evOp_r, evOp_d, evOp_dr, kpo_refl, kpo_app, cnd_some, cnd_pair, cnd_cnd_t, cnd_cnd_f, cnd_same, cnd_dvb, cnd_and, cnd_or, ↓evx_pick, gd_bool, gd_boolf, gd_tup, cnd_t, cnd_f, evTo, isCall, evx, put, lk, Od.v, keepEnv, enterEnv, ldx_ref, rdc, binx, binI, binS, unx, eqk, DV.isU, DV.cells, hget, hget0, hset, hset0, stx_ref, splice, DV.one, fillp, mat, eqcs, eqs, c1, c1', w1, hv, hdg, hR, hpb, c3, ldx, e2]; exact ⟨rfl, rfl⟩)] | rw [s_cnd (by simp [lk, keepEnv, Od.v, c1, c1', w1, hv, hdg, hR, hpb, c3, ldx, e2]; exact rfl)] | rw [cnd_t] | rw [cnd_f] | rw [s_skip] | rw [s_ret] | rw [s_exit] | rw [C_ret] | rw [C_exit] | rw [C_skip] | rw [blk_ret] | rw [blk_norm] | rw [blk_exit] | rw [blk_exit' (by decide)] | rw [blkT_ret] | rw [blkT_norm] | rw [blkT_exit] | rw [blkT_exit' (by decide)] | rw [s_blk] | rw [s_reg (by simp [evOps, evOp_n, evOp_r, evOp_d, evOp_dr, kpo_refl, kpo_app, cnd_some, cnd_pair, cnd_cnd_t, cnd_cnd_f, cnd_same, cnd_dvb, cnd_and, cnd_or, ↓evx_pick, gd_bool, gd_boolf, gd_tup, cnd_t, cnd_f, evTo, isCall, evx, put, lk, Od.v, keepEnv, enterEnv, ldx_ref, rdc, binx, binI, binS, unx, eqk, DV.isU, DV.cells, hget, hget0, hset, hset0, stx_ref, splice, DV.one, fillp, mat, eqcs, eqs, c1, c1', w1, hv, hdg, hR, hpb, c3, ldx, e2]; exact ⟨rfl, rfl⟩)] | rw [t_cnd (by simp [lk, keepEnv, Od.v, c1, c1', w1, hv, hdg, hR, hpb, c3, ldx, e2]; exact rfl)] | rw [t_blk]))
              simp [keepEnv, lk]
            · rw [hq] at e2
              refine ⟨w', h', ?_, by simpa [hq] using hM'⟩
              unfold lp35_0
              (repeat (first | rw [s_assoc] | rw [s_seq_reg (by simp [evOps, evOp_n, evOp_r, evOp_d, evOp_dr, kpo_refl, kpo_app, cnd_some, cnd_pair, cnd_cnd_t, cnd_cnd_f, cnd_same, cnd_dvb, cnd_and, cnd_or, ↓evx_pick, gd_bool, gd_boolf, gd_tup, cnd_t, cnd_f, evTo, isCall, evx, put, lk, Od.v, keepEnv, enterEnv, ldx_ref, rdc, binx, binI, binS, unx, eqk, DV.isU, DV.cells, hget, hget0, hset, hset0, stx_ref, splice, DV.one, fillp, mat, eqcs, eqs, c1, c1', w1, hv, hv2, hdg, hR, hpb, c3, ldx, e2, ha, z1, z2, z3, z4, z5]; exact ⟨rfl, rfl⟩)] | rw [s_cnd (by simp [lk, keepEnv, Od.v, c1, c1', w1, hv, hv2, hdg, hR, hpb, c3, ldx, e2, ha, z1, z2, z3, z4, z5]; exact rfl)] | rw [cnd_t] | rw [cnd_f] | rw [s_skip] | rw [s_ret] | rw [s_exit] | rw [C_ret] | rw [C_exit] | rw [C_skip] | rw [blk_ret] | rw [blk_norm] | rw [blk_exit] | rw [blk_exit' (by decide)] | rw [blkT_ret] | rw [blkT_norm] | rw [blkT_exit] | rw [blkT_exit' (by decide)] | rw [s_blk] | rw [s_reg (by simp [evOps, evOp_n, evOp_r, evOp_d, evOp_dr, kpo_refl, kpo_app, cnd_some, cnd_pair, cnd_cnd_t, cnd_cnd_f, cnd_same, cnd_dvb, cnd_and, cnd_or, ↓evx_pick, gd_bool, gd_boolf, gd_tup, cnd_t, cnd_f, evTo, isCall, evx, put, lk, Od.v, keepEnv, enterEnv, ldx_ref, rdc, binx, binI, binS, unx, eqk, DV.isU, DV.cells, hget, hget0, hset, hset0, stx_ref, splice, DV.one, fillp, mat, eqcs, eqs, c1, c1', w1, hv, hv2, hdg, hR, hpb, c3, ldx, e2, ha, z1, z2, z3, z4, z5]; exact ⟨rfl, rfl⟩)] | rw [t_cnd (by simp [lk, keepEnv, Od.v, c1, c1', w1, hv, hv2, hdg, hR, hpb, c3, ldx, e2, ha, z1, z2, z3, z4, z5]; exact rfl)] | rw [t_blk]))
              simp [keepEnv, lk]
          · have hj : vs[(j : Int).toNat]? = none := by simp; omega
            rw [hj]
            refine ⟨w, h, ?_, by simpa using hM⟩
            unfold lp35_0
            (repeat (first | rw [s_assoc] | rw [s_seq_reg (by simp [evOps, evOp_n, evOp_r, evOp_d, evOp_dr, kpo_refl, kpo_app, cnd_some, cnd_pair, cnd_cnd_t, cnd_cnd_f, cnd_same, cnd_dvb, cnd_and, cnd_or, ↓evx_pick, gd_bool, gd_boolf, gd_tup, cnd_t, cnd_f, evTo, isCall, evx, put, lk, Od.v, keepEnv, enterEnv, ldx_ref, rdc, binx, binI, binS, unx, eqk, DV.isU, DV.cells, hget, hget0, hset, hset0, stx_ref, splice, DV.one, fillp, mat, eqcs, eqs, c1, c1', w1, hv, hdg, hR, hpb, c3, ldx]; exact ⟨rfl, rfl⟩)] | rw [s_cnd (by simp [lk, keepEnv, Od.v, c1, c1', w1, hv, hdg, hR, hpb, c3, ldx]; exact rfl)] | rw [cnd_t] | rw [cnd_f] | rw [s_skip] | rw [s_ret] | rw [s_exit] | rw [C_ret] | rw [C_exit] | rw [C_skip] | rw [blk_ret] | rw [blk_norm] | rw [blk_exit] | rw [blk_exit' (by decide)] | rw [blkT_ret] | rw [blkT_norm] | rw [blkT_exit] | rw [blkT_exit' (by decide)] | rw [s_blk] | rw [s_reg (by simp [evOps, evOp_n, evOp_r, evOp_d, evOp_dr, kpo_refl, kpo_app, cnd_some, cnd_pair, cnd_cnd_t, cnd_cnd_f, cnd_same, cnd_dvb, cnd_and, cnd_or, ↓evx_pick, gd_bool, gd_boolf, gd_tup, cnd_t, cnd_f, evTo, isCall, evx, put, lk, Od.v, keepEnv, enterEnv, ldx_ref, rdc, binx, binI, binS, unx, eqk, DV.isU, DV.cells, hget, hget0, hset, hset0, stx_ref, splice, DV.one, fillp, mat, eqcs, eqs, c1, c1', w1, hv, hdg, hR, hpb, c3, ldx]; exact ⟨rfl, rfl⟩)] | rw [t_cnd (by simp [lk, keepEnv, Od.v, c1, c1', w1, hv, hdg, hR, hpb, c3, ldx]; exact rfl)] | rw [t_blk]))
            simp [keepEnv, lk]
        · refine ⟨w, h, ?_, by simpa [c2] using hM⟩
          unfold lp35_0
          (repeat (first | rw [s_assoc] | rw [s_seq_reg (by simp [evOps, evOp_n, evOp_r, evOp_d, evOp_dr, kpo_refl, kpo_app, cnd_some, cnd_pair, cnd_cnd_t, cnd_cnd_f, cnd_same, cnd_dvb, cnd_and, cnd_or, ↓evx_pick, gd_bool, gd_boolf, gd_tup, cnd_t, cnd_f, evTo, isCall, evx, put, lk, Od.v, keepEnv, enterEnv, ldx_ref, rdc, binx, binI, binS, unx, eqk, DV.isU, DV.cells, hget, hget0, hset, hset0, stx_ref, splice, DV.one, fillp, mat, eqcs, eqs, c1, c1', w1, hv, hdg, hR, hpb, c2, ldx]; exact ⟨rfl, rfl⟩)] | rw [s_cnd (by simp [lk, keepEnv, Od.v, c1, c1', w1, hv, hdg, hR, hpb, c2, ldx]; exact rfl)] | rw [cnd_t] | rw [cnd_f] | rw [s_skip] | rw [s_ret] | rw [s_exit] | rw [C_ret] | rw [C_exit] | rw [C_skip] | rw [blk_ret] | rw [blk_norm] | rw [blk_exit] | rw [blk_exit' (by decide)] | rw [blkT_ret] | rw [blkT_norm] | rw [blkT_exit] | rw [blkT_exit' (by decide)] | rw [s_blk] | rw [s_reg (by simp [evOps, evOp_n, evOp_r, evOp_d, evOp_dr, kpo_refl, kpo_app, cnd_some, cnd_pair, cnd_cnd_t, cnd_cnd_f, cnd_same, cnd_dvb, cnd_and, cnd_or, ↓evx_pick, gd_bool, gd_boolf, gd_tup, cnd_t, cnd_f, evTo, isCall, evx, put, lk, Od.v, keepEnv, enterEnv, ldx_ref, rdc, binx, binI, binS, unx, eqk, DV.isU, DV.cells, hget, hget0, hset, hset0, stx_ref, splice, DV.one, fillp, mat, eqcs, eqs, c1, c1', w1, hv, hdg, hR, hpb, c2, ldx]; exact ⟨rfl, rfl⟩)] | rw [t_cnd (by simp [lk, keepEnv, Od.v, c1, c1', w1, hv, hdg, hR, hpb, c2, ldx]; exact rfl)] | rw [t_blk]))
          simp [keepEnv, lk]
      obtain ⟨w2, h2, hc, hM2⟩ := key
      rw [t_loop, hc, lp_norm]
      exact ih I w2 h2 (by omega) (by omega) hM2
    · exact ih i w h (by omega) hi hM

theorem fin_wl {H h : Heap} {W : DV} {ws : List Nat} (hW : WL W ws) (ht : h.take H.length = H) : fin H h [.agg [W]] = (.agg [W], H) := by
  simp only [fin]
  rw [if_pos ht]
  rcases hW with rfl | ⟨rfl, rfl⟩ <;> simp [fz1, fzL, fz0]
theorem run35 {A : DV} {ds : List DV} {rs : List (List V)} {H : Heap} (x : N) (hA : ∀ L, vw (H ++ L) 1 A = some ds) (hd : RowsL ds rs) (hll : rs.length ≤ 65536) : ∃ W, E X 35 [A, x.d] H = some (.agg [W], H) ∧ WL W (ofW (leafI x rs rs.length)) := by
  have hA2 : ∀ L, vw ((H ++ [.box 41 x.d.cells, .box 34 [.nils]]) ++ L) 1 A = some ds := fun L => by rw [List.append_assoc]; exact hA _
  obtain ⟨y, ex, O, h', c1, hM⟩ := loop35 (H := H ++ [.box 41 x.d.cells, .box 34 [.nils]]) x (p := H.length) (q := H.length + 1) (by simp) (by simp) hA2 hd (by omega) rs.length 0 .nils (H ++ [.box 41 x.d.cells, .box 34 [.nils]]) (by omega) (by omega) (.inl ⟨rfl, rfl, rfl⟩)
  have hlb := leafI_len x rs rs.length
  have hlt : ∀ k ∈ leafI x rs rs.length, k < 65536 := by
    intro k hk
    have := (List.mem_filter.1 hk).1
    rw [List.mem_range] at this
    omega
  obtain ⟨W, e1, hW⟩ := run22 (H := h') (fun L => hM.vw L) hlt (by omega)
  have g1 : h'[H.length + 1]? = some (.box 34 [.nils]) := by
    rcases hM with ⟨_, _, rfl⟩ | ⟨g, _, rfl⟩
    · simp [hget]
    · rw [List.append_assoc, hget]; rfl
  have g2 : h'.take H.length = H := by
    rcases hM with ⟨_, _, rfl⟩ | ⟨g, _, rfl⟩
    · exact List.take_left
    · rw [List.append_assoc, List.take_left]
  have g4 : H.length + 1 < h'.length := (List.getElem?_eq_some_iff.1 g1).1
  have g5 : (h'.set (H.length + 1) (.box 34 [W])).take H.length = H := by
    rw [List.take_set]
    rw [List.set_eq_of_length_le (by simp; omega)]
    exact g2
  have g3 : (h'.set (H.length + 1) (.box 34 [W]))[H.length + 1]? = some (.box 34 [W]) := List.getElem?_set_self g4
  have hf := fin_wl hW g5
  refine ⟨W, ?_, hW⟩
  have hv := hA [.box 41 x.d.cells, .box 34 [.nils]]
  have hl := hd.1
  clear hM hlt hlb hA hA2 g2 g4 g5
  generalize leafI x rs rs.length = l at *
  obtain ⟨ask, col, ⟨vk, vn, vs', vt⟩, xa, xb⟩ := x
  simp only [N.d, V.d, DV.cells] at *
  rw [← hl] at c1
  rw [show ((0 : Nat) : Int) = 0 from rfl] at c1
  unfold lp35_0 at c1
  rw [E_go (X := X) _ b35 _ rfl rfl]; unfold b35
  (repeat (first | rw [s_assoc] | rw [s_seq_reg (by simp [evOps, evOp_n, evOp_r, evOp_d, evOp_dr, kpo_refl, kpo_app, cnd_some, cnd_pair, cnd_cnd_t, cnd_cnd_f, cnd_same, cnd_dvb, cnd_and, cnd_or, ↓evx_pick, gd_bool, gd_boolf, gd_tup, cnd_t, cnd_f, evTo, isCall, evx, put, lk, Od.v, keepEnv, enterEnv, ldx_ref, rdc, binx, binI, binS, unx, eqk, DV.isU, DV.cells, hget, hget0, hset, hset0, stx_ref, splice, DV.one, fillp, mat, eqcs, eqs, hv]; exact ⟨rfl, rfl⟩)] | rw [s_cnd (by simp [lk, keepEnv, Od.v, hv]; exact rfl)] | rw [cnd_t] | rw [cnd_f] | rw [s_skip] | rw [s_ret] | rw [s_exit] | rw [C_ret] | rw [C_exit] | rw [C_skip] | rw [blk_ret] | rw [blk_norm] | rw [blk_exit] | rw [blk_exit' (by decide)] | rw [blkT_ret] | rw [blkT_norm] | rw [blkT_exit] | rw [blkT_exit' (by decide)] | rw [s_blk] | rw [s_reg (by simp [evOps, evOp_n, evOp_r, evOp_d, evOp_dr, kpo_refl, kpo_app, cnd_some, cnd_pair, cnd_cnd_t, cnd_cnd_f, cnd_same, cnd_dvb, cnd_and, cnd_or, ↓evx_pick, gd_bool, gd_boolf, gd_tup, cnd_t, cnd_f, evTo, isCall, evx, put, lk, Od.v, keepEnv, enterEnv, ldx_ref, rdc, binx, binI, binS, unx, eqk, DV.isU, DV.cells, hget, hget0, hset, hset0, stx_ref, splice, DV.one, fillp, mat, eqcs, eqs, hv]; exact ⟨rfl, rfl⟩)] | rw [t_cnd (by simp [lk, keepEnv, Od.v, hv]; exact rfl)] | rw [t_blk]))
  (try simp only [keepEnv, List.map_cons, List.map_nil, lk, reduceIte, Nat.reduceEqDiff, Nat.zero_ne_one, Nat.one_ne_zero])
  rw [c1]
  rcases hW with rfl | ⟨rfl, hn⟩
  · (repeat (first | rw [s_assoc] | rw [s_seq_reg (by simp [evOps, evOp_n, evOp_r, evOp_d, evOp_dr, kpo_refl, kpo_app, cnd_some, cnd_pair, cnd_cnd_t, cnd_cnd_f, cnd_same, cnd_dvb, cnd_and, cnd_or, ↓evx_pick, gd_bool, gd_boolf, gd_tup, cnd_t, cnd_f, evTo, isCall, evx, put, lk, Od.v, keepEnv, enterEnv, ldx_ref, rdc, binx, binI, binS, unx, eqk, DV.isU, DV.cells, hget, hget0, hset, hset0, stx_ref, splice, DV.one, fillp, mat, eqcs, eqs, g1, e1]; exact ⟨rfl, rfl⟩)] | rw [s_cnd (by simp [lk, keepEnv, Od.v, g1, e1]; exact rfl)] | rw [cnd_t] | rw [cnd_f] | rw [s_skip] | rw [s_ret] | rw [s_exit] | rw [C_ret] | rw [C_exit] | rw [C_skip] | rw [blk_ret] | rw [blk_norm] | rw [blk_exit] | rw [blk_exit' (by decide)] | rw [blkT_ret] | rw [blkT_norm] | rw [blkT_exit] | rw [blkT_exit' (by decide)] | rw [s_blk] | rw [s_reg (by simp [evOps, evOp_n, evOp_r, evOp_d, evOp_dr, kpo_refl, kpo_app, cnd_some, cnd_pair, cnd_cnd_t, cnd_cnd_f, cnd_same, cnd_dvb, cnd_and, cnd_or, ↓evx_pick, gd_bool, gd_boolf, gd_tup, cnd_t, cnd_f, evTo, isCall, evx, put, lk, Od.v, keepEnv, enterEnv, ldx_ref, rdc, binx, binI, binS, unx, eqk, DV.isU, DV.cells, hget, hget0, hset, hset0, stx_ref, splice, DV.one, fillp, mat, eqcs, eqs, g1, e1]; exact ⟨rfl, rfl⟩)] | rw [t_cnd (by simp [lk, keepEnv, Od.v, g1, e1]; exact rfl)] | rw [t_blk]))
    simp [ends_norm, ends_ret, resL, keepEnv, lk, ldx_ref, g3, rdc]
    exact hf
  · (repeat (first | rw [s_assoc] | rw [s_seq_reg (by simp [evOps, evOp_n, evOp_r, evOp_d, evOp_dr, kpo_refl, kpo_app, cnd_some, cnd_pair, cnd_cnd_t, cnd_cnd_f, cnd_same, cnd_dvb, cnd_and, cnd_or, ↓evx_pick, gd_bool, gd_boolf, gd_tup, cnd_t, cnd_f, evTo, isCall, evx, put, lk, Od.v, keepEnv, enterEnv, ldx_ref, rdc, binx, binI, binS, unx, eqk, DV.isU, DV.cells, hget, hget0, hset, hset0, stx_ref, splice, DV.one, fillp, mat, eqcs, eqs, g1, e1]; exact ⟨rfl, rfl⟩)] | rw [s_cnd (by simp [lk, keepEnv, Od.v, g1, e1]; exact rfl)] | rw [cnd_t] | rw [cnd_f] | rw [s_skip] | rw [s_ret] | rw [s_exit] | rw [C_ret] | rw [C_exit] | rw [C_skip] | rw [blk_ret] | rw [blk_norm] | rw [blk_exit] | rw [blk_exit' (by decide)] | rw [blkT_ret] | rw [blkT_norm] | rw [blkT_exit] | rw [blkT_exit' (by decide)] | rw [s_blk] | rw [s_reg (by simp [evOps, evOp_n, evOp_r, evOp_d, evOp_dr, kpo_refl, kpo_app, cnd_some, cnd_pair, cnd_cnd_t, cnd_cnd_f, cnd_same, cnd_dvb, cnd_and, cnd_or, ↓evx_pick, gd_bool, gd_boolf, gd_tup, cnd_t, cnd_f, evTo, isCall, evx, put, lk, Od.v, keepEnv, enterEnv, ldx_ref, rdc, binx, binI, binS, unx, eqk, DV.isU, DV.cells, hget, hget0, hset, hset0, stx_ref, splice, DV.one, fillp, mat, eqcs, eqs, g1, e1]; exact ⟨rfl, rfl⟩)] | rw [t_cnd (by simp [lk, keepEnv, Od.v, g1, e1]; exact rfl)] | rw [t_blk]))
    simp [ends_norm, ends_ret, resL, keepEnv, lk, ldx_ref, g3, rdc]
    exact hf
end Go.Proofs.YtfgnefnpfgdliaaDoor
