/- Ideal runs: the chapter's examples. FilterTells, in plain Lean: the ideal run of the law. -/
import Derived.Test.YtfgnefnpfgdliaaDoorFltP
namespace Go.Proofs.YtfgnefnpfgdliaaDoor
set_option linter.unusedVariables false
set_option linter.unusedSimpArgs false
set_option maxRecDepth 10000
def vI (i : Int) : V := ⟨1, i, ⟨#[]⟩, false⟩
theorem run30 (i : Int) (H : Heap) : E X 30 [.int .i64 i] H = some ((vI i).d, H) := by
  rw [E_go (X := X) _ b30 _ rfl rfl]; unfold b30; (repeat (first | rw [s_assoc] | rw [s_seq_reg (by simp [evOps, evOp_n, evOp_r, evOp_d, evOp_dr, kpo_refl, kpo_app, cnd_some, cnd_pair, cnd_cnd_t, cnd_cnd_f, cnd_same, cnd_dvb, cnd_and, cnd_or, ↓evx_pick, gd_bool, gd_boolf, gd_tup, cnd_t, cnd_f, evTo, isCall, evx, put, lk, Od.v, keepEnv, enterEnv, ldx_ref, rdc, binx, binI, binS, unx, eqk, DV.isU, DV.cells, hget, hget0, hset, hset0, stx_ref, splice, DV.one, fillp, mat, eqcs, eqs, vI]; exact ⟨rfl, rfl⟩)] | rw [s_cnd (by simp [lk, keepEnv, Od.v, vI]; exact rfl)] | rw [cnd_t] | rw [cnd_f] | rw [s_skip] | rw [s_ret] | rw [s_exit] | rw [C_ret] | rw [C_exit] | rw [C_skip] | rw [blk_ret] | rw [blk_norm] | rw [blk_exit] | rw [blk_exit' (by decide)] | rw [blkT_ret] | rw [blkT_norm] | rw [blkT_exit] | rw [blkT_exit' (by decide)] | rw [s_blk] | rw [s_reg (by simp [evOps, evOp_n, evOp_r, evOp_d, evOp_dr, kpo_refl, kpo_app, cnd_some, cnd_pair, cnd_cnd_t, cnd_cnd_f, cnd_same, cnd_dvb, cnd_and, cnd_or, ↓evx_pick, gd_bool, gd_boolf, gd_tup, cnd_t, cnd_f, evTo, isCall, evx, put, lk, Od.v, keepEnv, enterEnv, ldx_ref, rdc, binx, binI, binS, unx, eqk, DV.isU, DV.cells, hget, hget0, hset, hset0, stx_ref, splice, DV.one, fillp, mat, eqcs, eqs, vI]; exact ⟨rfl, rfl⟩)] | rw [t_cnd (by simp [lk, keepEnv, Od.v, vI]; exact rfl)] | rw [t_blk])); simp [ends_ret, ends_norm, resL, evOps, evOp_n, evOp_r, evOp_d, evOp_dr, kpo_refl, kpo_app, cnd_some, cnd_pair, cnd_cnd_t, cnd_cnd_f, cnd_same, cnd_dvb, cnd_and, cnd_or, ↓evx_pick, gd_bool, gd_boolf, gd_tup, cnd_t, cnd_f, evTo, isCall, evx, put, lk, Od.v, keepEnv, enterEnv, ldx_ref, rdc, binx, binI, binS, unx, eqk, DV.isU, DV.cells, hget, hget0, hset, hset0, stx_ref, splice, DV.one, fillp, mat, eqcs, eqs, fin, fz0, fz1, fzT, fzL, nlt, vI]
def rows0 : List (List V) := [[vI 3], [V0], [vI 7]]
def ds0 : List DV := [.list 4 [(vI 3).d] true, .list 4 [V0.d] true, .list 4 [(vI 7).d] true]
theorem rows0_L : RowsL ds0 rows0 := by
  refine ⟨rfl, fun i d vs h1 h2 => ?_⟩
  match i with
  | 0 => simp [ds0, rows0] at h1 h2; subst h1; subst h2; exact .inl ⟨true, rfl⟩
  | 1 => simp [ds0, rows0] at h1 h2; subst h1; subst h2; exact .inl ⟨true, rfl⟩
  | 2 => simp [ds0, rows0] at h1 h2; subst h1; subst h2; exact .inl ⟨true, rfl⟩
  | i + 3 => simp [ds0] at h1
def nA : N := ⟨5, 0, vI 5, 0, 0⟩
def nB : N := ⟨10, 0, V0, 0, 0⟩
def nC : N := ⟨2, 0, vI 3, 0, 0⟩
theorem list1 : bitsOf (rowsW [nA] rows0) 0 = [2] := by rw [rowsW_list]; decide
theorem list2 : bitsOf (rowsW [nA, nB] rows0) 0 = [0, 1] := by rw [rowsW_list]; decide
theorem list3 : bitsOf (rowsW [nC] rows0) 0 = [2] := by rw [rowsW_list]; decide
theorem list4 : bit (rowsW [] [[]]) 0 = true := by rw [rowsW_holds [] [[]] (vs := []) rfl]; rfl
theorem listD_ne {l : List Nat} (h : l ≠ []) : listD l = .fresh 3 1 (l.map iD) := by simp [listD, h]
/-- What the examples call. -/
theorem ex16 (xs : List N) (L : DV) (hL : ∀ h, vw h 8 L = some (xs.map N.d)) (hb : xs.length ≤ 1000000) {l : List Nat} (hl : bitsOf (rowsW xs rows0) 0 = l) (hne : l ≠ []) (H : Heap) :
    ∃ W, E X 16 [L, .list 1 ds0 true] H = some (.agg [W], H) ∧ E X 15 [.agg [W], .int .i64 (-1)] H = some (.fresh 3 1 (l.map iD), H) := by
  obtain ⟨W, h1, h2, h3, h4⟩ := run16 (H := H) (L := L) (A := .list 1 ds0 true) (xs := xs) (ds := ds0) (rs := rows0) (fun G => hL _) (fun G => rfl) rows0_L hb (by simp [rows0])
  refine ⟨W, h1, ?_⟩
  rw [run15 h2 h3 h4, hl, listD_ne hne]
theorem ex14 (l : List Nat) (hl : l.length ≤ 100) (H : Heap) (o : Nat) (ho : H[o]? = some (.row 3 1 0 (l.map iD))) : E X 14 [.row o 0 0 l.length false, .list 1 (l.map iD) true] H = some (.bool true, H) := by
  have hv : vw H 1 (.row o 0 0 l.length false) = some ((l.map fun n : Nat => (n : Int)).map (.int .i64)) := by
    simp [vw, ho, List.take_of_length_le, Function.comp_def]
  have hv2 : vw H 1 (.list 1 (l.map iD) true) = some ((l.map fun n : Nat => (n : Int)).map (.int .i64)) := by
    simp [vw, Function.comp_def]
  rw [run14 hv hv2 (by simp; omega)]
  simp
set_option maxHeartbeats 1000000 in
theorem run9 (H : Heap) : E X 9 [] H = some (.bool true, H) := by
  obtain ⟨W1, a1, a2⟩ := ex16 [nA] (.list 8 [nA.d] false) (fun _ => rfl) (by simp) list1 (by simp) H
  have a2 : E X 15 [.agg [W1], .int .i64 (-1)] H = some (.fresh 3 1 [.int .i64 2], H) := a2
  have r1 : E X 14 [.row H.length 0 0 1 false, .list 1 [.int .i64 2] true] (H ++ [.row 3 1 0 [.int .i64 2]]) = some (.bool true, H ++ [.row 3 1 0 [.int .i64 2]]) := ex14 [2] (by simp) _ H.length (by simp)
  obtain ⟨W2, b1, b2⟩ := ex16 [nA, nB] (.list 8 [nA.d, nB.d] true) (fun _ => rfl) (by simp) list2 (by simp) (H ++ [.row 3 1 0 [.int .i64 2]])
  have b2 : E X 15 [.agg [W2], .int .i64 (-1)] (H ++ [.row 3 1 0 [.int .i64 2]]) = some (.fresh 3 1 [.int .i64 0, .int .i64 1], H ++ [.row 3 1 0 [.int .i64 2]]) := b2
  have r2 : E X 14 [.row (H.length + 1) 0 0 2 false, .list 1 [.int .i64 0, .int .i64 1] true] (H ++ [.row 3 1 0 [.int .i64 2], .row 3 1 0 [.int .i64 0, .int .i64 1]]) = some (.bool true, H ++ [.row 3 1 0 [.int .i64 2], .row 3 1 0 [.int .i64 0, .int .i64 1]]) := ex14 [0, 1] (by simp) _ (H.length + 1) (by simp [hget])
  obtain ⟨W3, c1, c2⟩ := ex16 [nC] (.list 8 [nC.d] true) (fun _ => rfl) (by simp) list3 (by simp) (H ++ [.row 3 1 0 [.int .i64 2], .row 3 1 0 [.int .i64 0, .int .i64 1]])
  have c2 : E X 15 [.agg [W3], .int .i64 (-1)] (H ++ [.row 3 1 0 [.int .i64 2], .row 3 1 0 [.int .i64 0, .int .i64 1]]) = some (.fresh 3 1 [.int .i64 2], H ++ [.row 3 1 0 [.int .i64 2], .row 3 1 0 [.int .i64 0, .int .i64 1]]) := c2
  have r3 : E X 14 [.row (H.length + 2) 0 0 1 false, .list 1 [.int .i64 2] true] (H ++ [.row 3 1 0 [.int .i64 2], .row 3 1 0 [.int .i64 0, .int .i64 1], .row 3 1 0 [.int .i64 2]]) = some (.bool true, H ++ [.row 3 1 0 [.int .i64 2], .row 3 1 0 [.int .i64 0, .int .i64 1], .row 3 1 0 [.int .i64 2]]) := ex14 [2] (by simp) _ (H.length + 2) (by simp [hget])
  have r4 := run12 (H := H ++ [.row 3 1 0 [.int .i64 2], .row 3 1 0 [.int .i64 0, .int .i64 1], .row 3 1 0 [.int .i64 2]]) (L := .nils) (d := .nils) (xs := []) (vs := []) (fun _ => rfl) (.inr ⟨rfl, rfl⟩) (by simp)
  rw [list4] at r4
  have e30 := run30
  simp only [V.d, vI, N.d, nA, nB, nC, ds0, V0, List.map_cons, List.map_nil, List.length_cons, List.length_nil, iD] at *
  have z0 : ∀ k n s t h, eltL [.agg [.int .i64 k, .int .i64 n, .str s, .bool t]] h = some ([.agg [.int .i64 k, .int .i64 n, .str s, .bool t]], h) := fun _ _ _ _ _ => rfl
  have z1 : ∀ k n s t, Wc 4 (.agg [.int .i64 k, .int .i64 n, .str s, .bool t]) := fun k n s t => by simp [Wc, DV.cells, DV.one]
  have z2 : ∀ k n s t, Nr (.agg [.int .i64 k, .int .i64 n, .str s, .bool t]) := fun k n s t => (V.mk k n s t).nr
  have z3 : ∀ c l, Wc 1 (.list 4 l c) := fun c l => by simp [Wc, DV.cells, DV.one]
  have z4 : ∀ c k n s t, Nr (.list 4 [.agg [.int .i64 k, .int .i64 n, .str s, .bool t]] c) := fun c k n s t => .list (fun x hx => by rw [List.mem_singleton.1 hx]; exact z2 k n s t)
  have z5 : ∀ a b c h, eltL [.list 4 a true, .list 4 b true, .list 4 c true] h = some ([.list 4 a true, .list 4 b true, .list 4 c true], h) := fun _ _ _ _ => rfl
  have z6 : ∀ a c k n s t i j, Wc 8 (.agg [.int .i64 a, .int .i64 c, .int .i64 k, .int .i64 n, .str s, .bool t, .int .i64 i, .int .i64 j]) := fun a c k n s t i j => by simp [Wc, DV.cells, DV.one]
  have z7 : ∀ a c k n s t i j, Nr (.agg [.int .i64 a, .int .i64 c, .int .i64 k, .int .i64 n, .str s, .bool t, .int .i64 i, .int .i64 j]) := fun a c k n s t i j => .agg (fun x hx => by
    simp at hx
    rcases hx with rfl | rfl | rfl | rfl | rfl | rfl | rfl | rfl
    · exact .int _ _
    · exact .int _ _
    · exact .int _ _
    · exact .int _ _
    · exact .str _
    · exact .bool _
    · exact .int _ _
    · exact .int _ _)
  have z8 : ∀ a b h, eltL [.agg a, .agg b] h = (roL a h).bind fun p => (roL b p.2).map fun q => ([.agg p.1, .agg q.1], q.2) := fun a b h => by
    simp only [eltL, eltOf]
    cases roL a h with
    | none => rfl
    | some p => cases hq : roL b p.2 <;> simp [hq]
  have z8' : ∀ a h, eltL [.agg a] h = (roL a h).map fun p => ([.agg p.1], p.2) := fun a h => by
    simp only [eltL, eltOf]
    cases roL a h <;> rfl
  have z9 : ∀ a h, eltL [.int .i64 a] h = some ([.int .i64 a], h) := fun _ _ => rfl
  have z10 : ∀ a b h, eltL [.int .i64 a, .int .i64 b] h = some ([.int .i64 a, .int .i64 b], h) := fun _ _ _ => rfl
  have z11 : ∀ a, Wc 1 (.int .i64 a) := fun a => by simp [Wc, DV.cells, DV.one]
  have z12 : ∀ a, Nr (.int .i64 a) := fun a => .int _ _
  rw [E_go (X := X) _ b9 _ rfl rfl]; unfold b9
  (repeat (first | rw [s_assoc] | rw [s_seq_reg (by simp [evOps, evOp_n, evOp_r, evOp_d, evOp_dr, kpo_refl, kpo_app, cnd_some, cnd_pair, cnd_cnd_t, cnd_cnd_f, cnd_same, cnd_dvb, cnd_and, cnd_or, ↓evx_pick, gd_bool, gd_boolf, gd_tup, cnd_t, cnd_f, evTo, isCall, evx, put, lk, Od.v, keepEnv, enterEnv, ldx_ref, rdc, binx, binI, binS, unx, eqk, DV.isU, DV.cells, hget, hget0, hset, hset0, stx_ref, splice, DV.one, fillp, mat, eqcs, eqs, e30, a1, a2, r1, b1, b2, r2, c1, c2, r3, r4, z0, z1, z2, z3, z4, z5, z6, z7, z8, z8', z9, z10, z11, z12, roL, roOf, vw, slcx, cutx, intAt]; exact ⟨rfl, rfl⟩)] | rw [s_cnd (by simp [lk, keepEnv, Od.v, e30, a1, a2, r1, b1, b2, r2, c1, c2, r3, r4, z0, z1, z2, z3, z4, z5, z6, z7, z8, z8', z9, z10, z11, z12, roL, roOf, vw, slcx, cutx, intAt]; exact rfl)] | rw [cnd_t] | rw [cnd_f] | rw [s_skip] | rw [s_ret] | rw [s_exit] | rw [C_ret] | rw [C_exit] | rw [C_skip] | rw [blk_ret] | rw [blk_norm] | rw [blk_exit] | rw [blk_exit' (by decide)] | rw [blkT_ret] | rw [blkT_norm] | rw [blkT_exit] | rw [blkT_exit' (by decide)] | rw [s_blk] | rw [s_reg (by simp [evOps, evOp_n, evOp_r, evOp_d, evOp_dr, kpo_refl, kpo_app, cnd_some, cnd_pair, cnd_cnd_t, cnd_cnd_f, cnd_same, cnd_dvb, cnd_and, cnd_or, ↓evx_pick, gd_bool, gd_boolf, gd_tup, cnd_t, cnd_f, evTo, isCall, evx, put, lk, Od.v, keepEnv, enterEnv, ldx_ref, rdc, binx, binI, binS, unx, eqk, DV.isU, DV.cells, hget, hget0, hset, hset0, stx_ref, splice, DV.one, fillp, mat, eqcs, eqs, e30, a1, a2, r1, b1, b2, r2, c1, c2, r3, r4, z0, z1, z2, z3, z4, z5, z6, z7, z8, z8', z9, z10, z11, z12, roL, roOf, vw, slcx, cutx, intAt]; exact ⟨rfl, rfl⟩)] | rw [t_cnd (by simp [lk, keepEnv, Od.v, e30, a1, a2, r1, b1, b2, r2, c1, c2, r3, r4, z0, z1, z2, z3, z4, z5, z6, z7, z8, z8', z9, z10, z11, z12, roL, roOf, vw, slcx, cutx, intAt]; exact rfl)] | rw [t_blk]))
  simp [ends_ret, ends_norm, resL, evOps, evOp_n, evOp_r, evOp_d, evOp_dr, kpo_refl, kpo_app, cnd_some, cnd_pair, cnd_cnd_t, cnd_cnd_f, cnd_same, cnd_dvb, cnd_and, cnd_or, ↓evx_pick, gd_bool, gd_boolf, gd_tup, cnd_t, cnd_f, evTo, isCall, evx, put, lk, Od.v, keepEnv, enterEnv, ldx_ref, rdc, binx, binI, binS, unx, eqk, DV.isU, DV.cells, hget, hget0, hset, hset0, stx_ref, splice, DV.one, fillp, mat, eqcs, eqs, fin, fz0, fz1, fzT, fzL, nlt, r4]
end Go.Proofs.YtfgnefnpfgdliaaDoor
namespace Go.Proofs.YtfgnefnpfgdliaaDoor
set_option linter.unusedVariables false
set_option linter.unusedSimpArgs false
set_option maxRecDepth 10000
theorem e14 {h : Heap} {A B : DV} {l : List Nat} (hA : vw h 1 A = some (l.map iD)) (hB : vw h 1 B = some (l.map iD)) (hl : l.length ≤ 1000000) : E X 14 [A, B] h = some (.bool true, h) := by
  have e : l.map iD = (l.map fun n : Nat => (n : Int)).map (.int .i64) := by simp [Function.comp_def]
  rw [e] at hA hB
  rw [run14 hA hB (by simpa using hl)]
  simp
theorem listD_LD (l : List Nat) : LD (listD l) l := by
  unfold listD
  split
  · rename_i h; exact .inl ⟨rfl, h⟩
  · exact .inr rfl
section
variable {L A : DV} {xs : List N} {ds : List DV} {rs : List (List V)}
theorem loop3 (hL : ∀ h, vw h 8 L = some (xs.map N.d)) (hA : ∀ h, vw h 1 A = some ds) (hd : RowsL ds rs) (hb : xs.length ≤ 1000000) (hr : rs.length ≤ 60) (sx : ∀ x ∈ xs, Sm x.val) (sv : ∀ vs ∈ rs, ∀ v ∈ vs, Sm v) (h : Heap) :
    ∀ (m i : Nat), rs.length - i ≤ m → i ≤ rs.length → ∃ y ex, C X (.loop lp3_0) [(0, L), (1, A), (8, .int .i64 i)] h = some (.exit 0, (0, L) :: (1, A) :: (8, y) :: ex, h) := by
  intro m
  have hdl := hd.1
  have hv := hA h
  induction m with
  | zero =>
    intro i hm hi
    obtain rfl : i = rs.length := by omega
    refine ⟨.int .i64 rs.length, [(28, .bool false)], ?_⟩
    rw [t_loop]
    unfold lp3_0
    (repeat (first | rw [s_assoc] | rw [s_seq_reg (by simp [evOps, evOp_n, evOp_r, evOp_d, evOp_dr, kpo_refl, kpo_app, cnd_some, cnd_pair, cnd_cnd_t, cnd_cnd_f, cnd_same, cnd_dvb, cnd_and, cnd_or, ↓evx_pick, gd_bool, gd_boolf, gd_tup, cnd_t, cnd_f, evTo, isCall, evx, put, lk, Od.v, keepEnv, enterEnv, ldx_ref, rdc, binx, binI, binS, unx, eqk, DV.isU, DV.cells, hget, hget0, hset, hset0, stx_ref, splice, DV.one, fillp, mat, eqcs, eqs, hv, hdl]; exact ⟨rfl, rfl⟩)] | rw [s_cnd (by simp [lk, keepEnv, Od.v, hv, hdl]; exact rfl)] | rw [cnd_t] | rw [cnd_f] | rw [s_skip] | rw [s_ret] | rw [s_exit] | rw [C_ret] | rw [C_exit] | rw [C_skip] | rw [blk_ret] | rw [blk_norm] | rw [blk_exit] | rw [blk_exit' (by decide)] | rw [blkT_ret] | rw [blkT_norm] | rw [blkT_exit] | rw [blkT_exit' (by decide)] | rw [s_blk] | rw [s_reg (by simp [evOps, evOp_n, evOp_r, evOp_d, evOp_dr, kpo_refl, kpo_app, cnd_some, cnd_pair, cnd_cnd_t, cnd_cnd_f, cnd_same, cnd_dvb, cnd_and, cnd_or, ↓evx_pick, gd_bool, gd_boolf, gd_tup, cnd_t, cnd_f, evTo, isCall, evx, put, lk, Od.v, keepEnv, enterEnv, ldx_ref, rdc, binx, binI, binS, unx, eqk, DV.isU, DV.cells, hget, hget0, hset, hset0, stx_ref, splice, DV.one, fillp, mat, eqcs, eqs, hv, hdl]; exact ⟨rfl, rfl⟩)] | rw [t_cnd (by simp [lk, keepEnv, Od.v, hv, hdl]; exact rfl)] | rw [t_blk]))
    rw [lp_exit]
    simp [keepEnv, lk]
  | succ m ih =>
    intro i hm hi
    by_cases c1 : i < rs.length
    · obtain ⟨I, hI⟩ : ∃ I, I = i + 1 := ⟨_, rfl⟩
      have w1 : IntKind.i64.wrap ((i : Int) + 1) = (I : Int) := (by rw [wrap64 _ (by omega) (by omega)]; omega)
      have c1' : i < ds.length := by omega
      have hRow := hd.2 i _ _ (List.getElem?_eq_getElem c1') (List.getElem?_eq_getElem c1)
      have e12 := run12 (H := h) (L := L) (xs := xs) (fun G => hL _) hRow hb
      have e13 := run13 (H := h) (L := L) (xs := xs) (fun G => hL _) hRow hb sx (sv _ (List.getElem_mem _))
      rw [rowsW_holds xs [rs[i]] (vs := rs[i]) rfl] at e12
      generalize rs[i] = vs at *
      obtain ⟨d, hdg⟩ : ∃ d, ds[i] = d := ⟨_, rfl⟩
      rw [hdg] at hRow e13 e12
      generalize holdsR xs vs = op at *
      have hc : C X lp3_0 [(0, L), (1, A), (8, .int .i64 i)] h = some (.norm, [(0, L), (1, A), (8, .int .i64 I)], h) := by
        clear ih hL hA hd
        rcases hRow with ⟨cc, rfl⟩ | ⟨rfl, rfl⟩
        · cases op
          · unfold lp3_0
            (repeat (first | rw [s_assoc] | rw [s_seq_reg (by simp [evOps, evOp_n, evOp_r, evOp_d, evOp_dr, kpo_refl, kpo_app, cnd_some, cnd_pair, cnd_cnd_t, cnd_cnd_f, cnd_same, cnd_dvb, cnd_and, cnd_or, ↓evx_pick, gd_bool, gd_boolf, gd_tup, cnd_t, cnd_f, evTo, isCall, evx, put, lk, Od.v, keepEnv, enterEnv, ldx_ref, rdc, binx, binI, binS, unx, eqk, DV.isU, DV.cells, hget, hget0, hset, hset0, stx_ref, splice, DV.one, fillp, mat, eqcs, eqs, c1, c1', w1, hv, hdl, hdg, ldx, e12, e13]; exact ⟨rfl, rfl⟩)] | rw [s_cnd (by simp [lk, keepEnv, Od.v, c1, c1', w1, hv, hdl, hdg, ldx, e12, e13]; exact rfl)] | rw [cnd_t] | rw [cnd_f] | rw [s_skip] | rw [s_ret] | rw [s_exit] | rw [C_ret] | rw [C_exit] | rw [C_skip] | rw [blk_ret] | rw [blk_norm] | rw [blk_exit] | rw [blk_exit' (by decide)] | rw [blkT_ret] | rw [blkT_norm] | rw [blkT_exit] | rw [blkT_exit' (by decide)] | rw [s_blk] | rw [s_reg (by simp [evOps, evOp_n, evOp_r, evOp_d, evOp_dr, kpo_refl, kpo_app, cnd_some, cnd_pair, cnd_cnd_t, cnd_cnd_f, cnd_same, cnd_dvb, cnd_and, cnd_or, ↓evx_pick, gd_bool, gd_boolf, gd_tup, cnd_t, cnd_f, evTo, isCall, evx, put, lk, Od.v, keepEnv, enterEnv, ldx_ref, rdc, binx, binI, binS, unx, eqk, DV.isU, DV.cells, hget, hget0, hset, hset0, stx_ref, splice, DV.one, fillp, mat, eqcs, eqs, c1, c1', w1, hv, hdl, hdg, ldx, e12, e13]; exact ⟨rfl, rfl⟩)] | rw [t_cnd (by simp [lk, keepEnv, Od.v, c1, c1', w1, hv, hdl, hdg, ldx, e12, e13]; exact rfl)] | rw [t_blk]))
            simp [keepEnv, lk]
          · unfold lp3_0
            (repeat (first | rw [s_assoc] | rw [s_seq_reg (by simp [evOps, evOp_n, evOp_r, evOp_d, evOp_dr, kpo_refl, kpo_app, cnd_some, cnd_pair, cnd_cnd_t, cnd_cnd_f, cnd_same, cnd_dvb, cnd_and, cnd_or, ↓evx_pick, gd_bool, gd_boolf, gd_tup, cnd_t, cnd_f, evTo, isCall, evx, put, lk, Od.v, keepEnv, enterEnv, ldx_ref, rdc, binx, binI, binS, unx, eqk, DV.isU, DV.cells, hget, hget0, hset, hset0, stx_ref, splice, DV.one, fillp, mat, eqcs, eqs, c1, c1', w1, hv, hdl, hdg, ldx, e12, e13]; exact ⟨rfl, rfl⟩)] | rw [s_cnd (by simp [lk, keepEnv, Od.v, c1, c1', w1, hv, hdl, hdg, ldx, e12, e13]; exact rfl)] | rw [cnd_t] | rw [cnd_f] | rw [s_skip] | rw [s_ret] | rw [s_exit] | rw [C_ret] | rw [C_exit] | rw [C_skip] | rw [blk_ret] | rw [blk_norm] | rw [blk_exit] | rw [blk_exit' (by decide)] | rw [blkT_ret] | rw [blkT_norm] | rw [blkT_exit] | rw [blkT_exit' (by decide)] | rw [s_blk] | rw [s_reg (by simp [evOps, evOp_n, evOp_r, evOp_d, evOp_dr, kpo_refl, kpo_app, cnd_some, cnd_pair, cnd_cnd_t, cnd_cnd_f, cnd_same, cnd_dvb, cnd_and, cnd_or, ↓evx_pick, gd_bool, gd_boolf, gd_tup, cnd_t, cnd_f, evTo, isCall, evx, put, lk, Od.v, keepEnv, enterEnv, ldx_ref, rdc, binx, binI, binS, unx, eqk, DV.isU, DV.cells, hget, hget0, hset, hset0, stx_ref, splice, DV.one, fillp, mat, eqcs, eqs, c1, c1', w1, hv, hdl, hdg, ldx, e12, e13]; exact ⟨rfl, rfl⟩)] | rw [t_cnd (by simp [lk, keepEnv, Od.v, c1, c1', w1, hv, hdl, hdg, ldx, e12, e13]; exact rfl)] | rw [t_blk]))
            simp [keepEnv, lk]
        · cases op
          · unfold lp3_0
            (repeat (first | rw [s_assoc] | rw [s_seq_reg (by simp [evOps, evOp_n, evOp_r, evOp_d, evOp_dr, kpo_refl, kpo_app, cnd_some, cnd_pair, cnd_cnd_t, cnd_cnd_f, cnd_same, cnd_dvb, cnd_and, cnd_or, ↓evx_pick, gd_bool, gd_boolf, gd_tup, cnd_t, cnd_f, evTo, isCall, evx, put, lk, Od.v, keepEnv, enterEnv, ldx_ref, rdc, binx, binI, binS, unx, eqk, DV.isU, DV.cells, hget, hget0, hset, hset0, stx_ref, splice, DV.one, fillp, mat, eqcs, eqs, c1, c1', w1, hv, hdl, hdg, ldx, e12, e13]; exact ⟨rfl, rfl⟩)] | rw [s_cnd (by simp [lk, keepEnv, Od.v, c1, c1', w1, hv, hdl, hdg, ldx, e12, e13]; exact rfl)] | rw [cnd_t] | rw [cnd_f] | rw [s_skip] | rw [s_ret] | rw [s_exit] | rw [C_ret] | rw [C_exit] | rw [C_skip] | rw [blk_ret] | rw [blk_norm] | rw [blk_exit] | rw [blk_exit' (by decide)] | rw [blkT_ret] | rw [blkT_norm] | rw [blkT_exit] | rw [blkT_exit' (by decide)] | rw [s_blk] | rw [s_reg (by simp [evOps, evOp_n, evOp_r, evOp_d, evOp_dr, kpo_refl, kpo_app, cnd_some, cnd_pair, cnd_cnd_t, cnd_cnd_f, cnd_same, cnd_dvb, cnd_and, cnd_or, ↓evx_pick, gd_bool, gd_boolf, gd_tup, cnd_t, cnd_f, evTo, isCall, evx, put, lk, Od.v, keepEnv, enterEnv, ldx_ref, rdc, binx, binI, binS, unx, eqk, DV.isU, DV.cells, hget, hget0, hset, hset0, stx_ref, splice, DV.one, fillp, mat, eqcs, eqs, c1, c1', w1, hv, hdl, hdg, ldx, e12, e13]; exact ⟨rfl, rfl⟩)] | rw [t_cnd (by simp [lk, keepEnv, Od.v, c1, c1', w1, hv, hdl, hdg, ldx, e12, e13]; exact rfl)] | rw [t_blk]))
            simp [keepEnv, lk]
          · unfold lp3_0
            (repeat (first | rw [s_assoc] | rw [s_seq_reg (by simp [evOps, evOp_n, evOp_r, evOp_d, evOp_dr, kpo_refl, kpo_app, cnd_some, cnd_pair, cnd_cnd_t, cnd_cnd_f, cnd_same, cnd_dvb, cnd_and, cnd_or, ↓evx_pick, gd_bool, gd_boolf, gd_tup, cnd_t, cnd_f, evTo, isCall, evx, put, lk, Od.v, keepEnv, enterEnv, ldx_ref, rdc, binx, binI, binS, unx, eqk, DV.isU, DV.cells, hget, hget0, hset, hset0, stx_ref, splice, DV.one, fillp, mat, eqcs, eqs, c1, c1', w1, hv, hdl, hdg, ldx, e12, e13]; exact ⟨rfl, rfl⟩)] | rw [s_cnd (by simp [lk, keepEnv, Od.v, c1, c1', w1, hv, hdl, hdg, ldx, e12, e13]; exact rfl)] | rw [cnd_t] | rw [cnd_f] | rw [s_skip] | rw [s_ret] | rw [s_exit] | rw [C_ret] | rw [C_exit] | rw [C_skip] | rw [blk_ret] | rw [blk_norm] | rw [blk_exit] | rw [blk_exit' (by decide)] | rw [blkT_ret] | rw [blkT_norm] | rw [blkT_exit] | rw [blkT_exit' (by decide)] | rw [s_blk] | rw [s_reg (by simp [evOps, evOp_n, evOp_r, evOp_d, evOp_dr, kpo_refl, kpo_app, cnd_some, cnd_pair, cnd_cnd_t, cnd_cnd_f, cnd_same, cnd_dvb, cnd_and, cnd_or, ↓evx_pick, gd_bool, gd_boolf, gd_tup, cnd_t, cnd_f, evTo, isCall, evx, put, lk, Od.v, keepEnv, enterEnv, ldx_ref, rdc, binx, binI, binS, unx, eqk, DV.isU, DV.cells, hget, hget0, hset, hset0, stx_ref, splice, DV.one, fillp, mat, eqcs, eqs, c1, c1', w1, hv, hdl, hdg, ldx, e12, e13]; exact ⟨rfl, rfl⟩)] | rw [t_cnd (by simp [lk, keepEnv, Od.v, c1, c1', w1, hv, hdl, hdg, ldx, e12, e13]; exact rfl)] | rw [t_blk]))
            simp [keepEnv, lk]
      rw [t_loop, hc, lp_norm]
      exact ih I (by omega) (by omega)
    · exact ih i (by omega) hi
theorem run3 (hL : ∀ h, vw h 8 L = some (xs.map N.d)) (hA : ∀ h, vw h 1 A = some ds) (hd : RowsL ds rs) (sx : ∀ x ∈ xs, Sm x.val) (sv : ∀ vs ∈ rs, ∀ v ∈ vs, Sm v) : E X 3 [L, A] [] = some (.bool true, []) := by
  have e9 := run9 []
  have e10 := run10 (hL [])
  have e11 := run11 (hA []) hd
  cases hf : fewN xs
  · rw [hf] at e10
    generalize lightR rs = lr at *
    rw [E_go (X := X) _ b3 _ rfl rfl]; unfold b3; (repeat (first | rw [s_assoc] | rw [s_seq_reg (by simp [evOps, evOp_n, evOp_r, evOp_d, evOp_dr, kpo_refl, kpo_app, cnd_some, cnd_pair, cnd_cnd_t, cnd_cnd_f, cnd_same, cnd_dvb, cnd_and, cnd_or, ↓evx_pick, gd_bool, gd_boolf, gd_tup, cnd_t, cnd_f, evTo, isCall, evx, put, lk, Od.v, keepEnv, enterEnv, ldx_ref, rdc, binx, binI, binS, unx, eqk, DV.isU, DV.cells, hget, hget0, hset, hset0, stx_ref, splice, DV.one, fillp, mat, eqcs, eqs, e9, e10, e11]; exact ⟨rfl, rfl⟩)] | rw [s_cnd (by simp [lk, keepEnv, Od.v, e9, e10, e11]; exact rfl)] | rw [cnd_t] | rw [cnd_f] | rw [s_skip] | rw [s_ret] | rw [s_exit] | rw [C_ret] | rw [C_exit] | rw [C_skip] | rw [blk_ret] | rw [blk_norm] | rw [blk_exit] | rw [blk_exit' (by decide)] | rw [blkT_ret] | rw [blkT_norm] | rw [blkT_exit] | rw [blkT_exit' (by decide)] | rw [s_blk] | rw [s_reg (by simp [evOps, evOp_n, evOp_r, evOp_d, evOp_dr, kpo_refl, kpo_app, cnd_some, cnd_pair, cnd_cnd_t, cnd_cnd_f, cnd_same, cnd_dvb, cnd_and, cnd_or, ↓evx_pick, gd_bool, gd_boolf, gd_tup, cnd_t, cnd_f, evTo, isCall, evx, put, lk, Od.v, keepEnv, enterEnv, ldx_ref, rdc, binx, binI, binS, unx, eqk, DV.isU, DV.cells, hget, hget0, hset, hset0, stx_ref, splice, DV.one, fillp, mat, eqcs, eqs, e9, e10, e11]; exact ⟨rfl, rfl⟩)] | rw [t_cnd (by simp [lk, keepEnv, Od.v, e9, e10, e11]; exact rfl)] | rw [t_blk])); simp [ends_ret, ends_norm, resL, evOps, evOp_n, evOp_r, evOp_d, evOp_dr, kpo_refl, kpo_app, cnd_some, cnd_pair, cnd_cnd_t, cnd_cnd_f, cnd_same, cnd_dvb, cnd_and, cnd_or, ↓evx_pick, gd_bool, gd_boolf, gd_tup, cnd_t, cnd_f, evTo, isCall, evx, put, lk, Od.v, keepEnv, enterEnv, ldx_ref, rdc, binx, binI, binS, unx, eqk, DV.isU, DV.cells, hget, hget0, hset, hset0, stx_ref, splice, DV.one, fillp, mat, eqcs, eqs, fin, fz0, fz1, fzT, fzL, nlt, e9, e10, e11]
  cases hl : lightR rs
  · rw [hf] at e10
    rw [hl] at e11
    rw [E_go (X := X) _ b3 _ rfl rfl]; unfold b3; (repeat (first | rw [s_assoc] | rw [s_seq_reg (by simp [evOps, evOp_n, evOp_r, evOp_d, evOp_dr, kpo_refl, kpo_app, cnd_some, cnd_pair, cnd_cnd_t, cnd_cnd_f, cnd_same, cnd_dvb, cnd_and, cnd_or, ↓evx_pick, gd_bool, gd_boolf, gd_tup, cnd_t, cnd_f, evTo, isCall, evx, put, lk, Od.v, keepEnv, enterEnv, ldx_ref, rdc, binx, binI, binS, unx, eqk, DV.isU, DV.cells, hget, hget0, hset, hset0, stx_ref, splice, DV.one, fillp, mat, eqcs, eqs, e9, e10, e11]; exact ⟨rfl, rfl⟩)] | rw [s_cnd (by simp [lk, keepEnv, Od.v, e9, e10, e11]; exact rfl)] | rw [cnd_t] | rw [cnd_f] | rw [s_skip] | rw [s_ret] | rw [s_exit] | rw [C_ret] | rw [C_exit] | rw [C_skip] | rw [blk_ret] | rw [blk_norm] | rw [blk_exit] | rw [blk_exit' (by decide)] | rw [blkT_ret] | rw [blkT_norm] | rw [blkT_exit] | rw [blkT_exit' (by decide)] | rw [s_blk] | rw [s_reg (by simp [evOps, evOp_n, evOp_r, evOp_d, evOp_dr, kpo_refl, kpo_app, cnd_some, cnd_pair, cnd_cnd_t, cnd_cnd_f, cnd_same, cnd_dvb, cnd_and, cnd_or, ↓evx_pick, gd_bool, gd_boolf, gd_tup, cnd_t, cnd_f, evTo, isCall, evx, put, lk, Od.v, keepEnv, enterEnv, ldx_ref, rdc, binx, binI, binS, unx, eqk, DV.isU, DV.cells, hget, hget0, hset, hset0, stx_ref, splice, DV.one, fillp, mat, eqcs, eqs, e9, e10, e11]; exact ⟨rfl, rfl⟩)] | rw [t_cnd (by simp [lk, keepEnv, Od.v, e9, e10, e11]; exact rfl)] | rw [t_blk])); simp [ends_ret, ends_norm, resL, evOps, evOp_n, evOp_r, evOp_d, evOp_dr, kpo_refl, kpo_app, cnd_some, cnd_pair, cnd_cnd_t, cnd_cnd_f, cnd_same, cnd_dvb, cnd_and, cnd_or, ↓evx_pick, gd_bool, gd_boolf, gd_tup, cnd_t, cnd_f, evTo, isCall, evx, put, lk, Od.v, keepEnv, enterEnv, ldx_ref, rdc, binx, binI, binS, unx, eqk, DV.isU, DV.cells, hget, hget0, hset, hset0, stx_ref, splice, DV.one, fillp, mat, eqcs, eqs, fin, fz0, fz1, fzT, fzL, nlt, e9, e10, e11]
  rw [hf] at e10
  rw [hl] at e11
  have hb : xs.length ≤ 60 := by simp [fewN] at hf; exact hf.1
  have hr : rs.length ≤ 60 := by simp [lightR] at hl; exact hl.1
  obtain ⟨y, ex, hc⟩ := loop3 hL hA hd (by omega) hr sx sv [] rs.length 0 (by omega) (by omega)
  rw [show ((0 : Nat) : Int) = 0 from rfl] at hc
  unfold lp3_0 at hc
  obtain ⟨W, h1, h2, h3, h4⟩ := run16 (H := []) (L := L) (A := A) (fun G => hL _) (fun G => hA _) hd (by omega) (by omega)
  have e15 := run15 h2 h3 h4 []
  rw [rowsW_list] at e15
  have hlen := rowsI_len xs rs rs.length
  have q15 := listD_LD (rowsI xs rs rs.length)
  have r17 := fun H : Heap => run17 (H := H) (L := L) (A := A) (fun G => hL _) (fun G => hA _) hd (by omega) (by omega) sx sv
  generalize listD (rowsI xs rs rs.length) = D at *
  generalize rowsI xs rs rs.length = l at *
  rw [E_go (X := X) _ b3 _ rfl rfl]; unfold b3
  (repeat (first | rw [s_assoc] | rw [s_seq_reg (by simp [evOps, evOp_n, evOp_r, evOp_d, evOp_dr, kpo_refl, kpo_app, cnd_some, cnd_pair, cnd_cnd_t, cnd_cnd_f, cnd_same, cnd_dvb, cnd_and, cnd_or, ↓evx_pick, gd_bool, gd_boolf, gd_tup, cnd_t, cnd_f, evTo, isCall, evx, put, lk, Od.v, keepEnv, enterEnv, ldx_ref, rdc, binx, binI, binS, unx, eqk, DV.isU, DV.cells, hget, hget0, hset, hset0, stx_ref, splice, DV.one, fillp, mat, eqcs, eqs, e9, e10, e11]; exact ⟨rfl, rfl⟩)] | rw [s_cnd (by simp [lk, keepEnv, Od.v, e9, e10, e11]; exact rfl)] | rw [cnd_t] | rw [cnd_f] | rw [s_skip] | rw [s_ret] | rw [s_exit] | rw [C_ret] | rw [C_exit] | rw [C_skip] | rw [blk_ret] | rw [blk_norm] | rw [blk_exit] | rw [blk_exit' (by decide)] | rw [blkT_ret] | rw [blkT_norm] | rw [blkT_exit] | rw [blkT_exit' (by decide)] | rw [s_blk] | rw [s_reg (by simp [evOps, evOp_n, evOp_r, evOp_d, evOp_dr, kpo_refl, kpo_app, cnd_some, cnd_pair, cnd_cnd_t, cnd_cnd_f, cnd_same, cnd_dvb, cnd_and, cnd_or, ↓evx_pick, gd_bool, gd_boolf, gd_tup, cnd_t, cnd_f, evTo, isCall, evx, put, lk, Od.v, keepEnv, enterEnv, ldx_ref, rdc, binx, binI, binS, unx, eqk, DV.isU, DV.cells, hget, hget0, hset, hset0, stx_ref, splice, DV.one, fillp, mat, eqcs, eqs, e9, e10, e11]; exact ⟨rfl, rfl⟩)] | rw [t_cnd (by simp [lk, keepEnv, Od.v, e9, e10, e11]; exact rfl)] | rw [t_blk]))
  (try simp only [keepEnv, List.map_cons, List.map_nil, lk, reduceIte, Nat.reduceEqDiff, Nat.zero_ne_one, Nat.one_ne_zero])
  rw [hc]
  clear hc
  rcases q15 with ⟨rfl, rfl⟩ | rfl
  · obtain ⟨D', e17, q17⟩ := r17 []
    rcases q17 with ⟨rfl, _⟩ | rfl
    · have r14 := e14 (h := []) (A := .nils) (B := .nils) (l := []) rfl rfl (by simp)
      (repeat (first | rw [s_assoc] | rw [s_seq_reg (by simp [evOps, evOp_n, evOp_r, evOp_d, evOp_dr, kpo_refl, kpo_app, cnd_some, cnd_pair, cnd_cnd_t, cnd_cnd_f, cnd_same, cnd_dvb, cnd_and, cnd_or, ↓evx_pick, gd_bool, gd_boolf, gd_tup, cnd_t, cnd_f, evTo, isCall, evx, put, lk, Od.v, keepEnv, enterEnv, ldx_ref, rdc, binx, binI, binS, unx, eqk, DV.isU, DV.cells, hget, hget0, hset, hset0, stx_ref, splice, DV.one, fillp, mat, eqcs, eqs, h1, e15, e17, r14]; exact ⟨rfl, rfl⟩)] | rw [s_cnd (by simp [lk, keepEnv, Od.v, h1, e15, e17, r14]; exact rfl)] | rw [cnd_t] | rw [cnd_f] | rw [s_skip] | rw [s_ret] | rw [s_exit] | rw [C_ret] | rw [C_exit] | rw [C_skip] | rw [blk_ret] | rw [blk_norm] | rw [blk_exit] | rw [blk_exit' (by decide)] | rw [blkT_ret] | rw [blkT_norm] | rw [blkT_exit] | rw [blkT_exit' (by decide)] | rw [s_blk] | rw [s_reg (by simp [evOps, evOp_n, evOp_r, evOp_d, evOp_dr, kpo_refl, kpo_app, cnd_some, cnd_pair, cnd_cnd_t, cnd_cnd_f, cnd_same, cnd_dvb, cnd_and, cnd_or, ↓evx_pick, gd_bool, gd_boolf, gd_tup, cnd_t, cnd_f, evTo, isCall, evx, put, lk, Od.v, keepEnv, enterEnv, ldx_ref, rdc, binx, binI, binS, unx, eqk, DV.isU, DV.cells, hget, hget0, hset, hset0, stx_ref, splice, DV.one, fillp, mat, eqcs, eqs, h1, e15, e17, r14]; exact ⟨rfl, rfl⟩)] | rw [t_cnd (by simp [lk, keepEnv, Od.v, h1, e15, e17, r14]; exact rfl)] | rw [t_blk]))
      simp [ends_ret, ends_norm, resL, evOps, evOp_n, evOp_r, evOp_d, evOp_dr, kpo_refl, kpo_app, cnd_some, cnd_pair, cnd_cnd_t, cnd_cnd_f, cnd_same, cnd_dvb, cnd_and, cnd_or, ↓evx_pick, gd_bool, gd_boolf, gd_tup, cnd_t, cnd_f, evTo, isCall, evx, put, lk, Od.v, keepEnv, enterEnv, ldx_ref, rdc, binx, binI, binS, unx, eqk, DV.isU, DV.cells, hget, hget0, hset, hset0, stx_ref, splice, DV.one, fillp, mat, eqcs, eqs, fin, fz0, fz1, fzT, fzL, nlt, h1]
    · have r14 := e14 (h := [.row 3 1 0 []]) (A := .nils) (B := .row 0 0 0 0 false) (l := []) rfl rfl (by simp)
      (repeat (first | rw [s_assoc] | rw [s_seq_reg (by simp [evOps, evOp_n, evOp_r, evOp_d, evOp_dr, kpo_refl, kpo_app, cnd_some, cnd_pair, cnd_cnd_t, cnd_cnd_f, cnd_same, cnd_dvb, cnd_and, cnd_or, ↓evx_pick, gd_bool, gd_boolf, gd_tup, cnd_t, cnd_f, evTo, isCall, evx, put, lk, Od.v, keepEnv, enterEnv, ldx_ref, rdc, binx, binI, binS, unx, eqk, DV.isU, DV.cells, hget, hget0, hset, hset0, stx_ref, splice, DV.one, fillp, mat, eqcs, eqs, h1, e15, e17, r14]; exact ⟨rfl, rfl⟩)] | rw [s_cnd (by simp [lk, keepEnv, Od.v, h1, e15, e17, r14]; exact rfl)] | rw [cnd_t] | rw [cnd_f] | rw [s_skip] | rw [s_ret] | rw [s_exit] | rw [C_ret] | rw [C_exit] | rw [C_skip] | rw [blk_ret] | rw [blk_norm] | rw [blk_exit] | rw [blk_exit' (by decide)] | rw [blkT_ret] | rw [blkT_norm] | rw [blkT_exit] | rw [blkT_exit' (by decide)] | rw [s_blk] | rw [s_reg (by simp [evOps, evOp_n, evOp_r, evOp_d, evOp_dr, kpo_refl, kpo_app, cnd_some, cnd_pair, cnd_cnd_t, cnd_cnd_f, cnd_same, cnd_dvb, cnd_and, cnd_or, ↓evx_pick, gd_bool, gd_boolf, gd_tup, cnd_t, cnd_f, evTo, isCall, evx, put, lk, Od.v, keepEnv, enterEnv, ldx_ref, rdc, binx, binI, binS, unx, eqk, DV.isU, DV.cells, hget, hget0, hset, hset0, stx_ref, splice, DV.one, fillp, mat, eqcs, eqs, h1, e15, e17, r14]; exact ⟨rfl, rfl⟩)] | rw [t_cnd (by simp [lk, keepEnv, Od.v, h1, e15, e17, r14]; exact rfl)] | rw [t_blk]))
      simp [ends_ret, ends_norm, resL, evOps, evOp_n, evOp_r, evOp_d, evOp_dr, kpo_refl, kpo_app, cnd_some, cnd_pair, cnd_cnd_t, cnd_cnd_f, cnd_same, cnd_dvb, cnd_and, cnd_or, ↓evx_pick, gd_bool, gd_boolf, gd_tup, cnd_t, cnd_f, evTo, isCall, evx, put, lk, Od.v, keepEnv, enterEnv, ldx_ref, rdc, binx, binI, binS, unx, eqk, DV.isU, DV.cells, hget, hget0, hset, hset0, stx_ref, splice, DV.one, fillp, mat, eqcs, eqs, fin, fz0, fz1, fzT, fzL, nlt, h1]
  · obtain ⟨D', e17, q17⟩ := r17 [.row 3 1 0 (l.map iD)]
    rcases q17 with ⟨rfl, rfl⟩ | rfl
    · have r14 := e14 (h := [.row 3 1 0 []]) (A := .row 0 0 0 0 false) (B := .nils) (l := []) rfl rfl (by simp)
      simp only [List.map_nil] at e15 e17
      (repeat (first | rw [s_assoc] | rw [s_seq_reg (by simp [evOps, evOp_n, evOp_r, evOp_d, evOp_dr, kpo_refl, kpo_app, cnd_some, cnd_pair, cnd_cnd_t, cnd_cnd_f, cnd_same, cnd_dvb, cnd_and, cnd_or, ↓evx_pick, gd_bool, gd_boolf, gd_tup, cnd_t, cnd_f, evTo, isCall, evx, put, lk, Od.v, keepEnv, enterEnv, ldx_ref, rdc, binx, binI, binS, unx, eqk, DV.isU, DV.cells, hget, hget0, hset, hset0, stx_ref, splice, DV.one, fillp, mat, eqcs, eqs, h1, e15, e17, r14]; exact ⟨rfl, rfl⟩)] | rw [s_cnd (by simp [lk, keepEnv, Od.v, h1, e15, e17, r14]; exact rfl)] | rw [cnd_t] | rw [cnd_f] | rw [s_skip] | rw [s_ret] | rw [s_exit] | rw [C_ret] | rw [C_exit] | rw [C_skip] | rw [blk_ret] | rw [blk_norm] | rw [blk_exit] | rw [blk_exit' (by decide)] | rw [blkT_ret] | rw [blkT_norm] | rw [blkT_exit] | rw [blkT_exit' (by decide)] | rw [s_blk] | rw [s_reg (by simp [evOps, evOp_n, evOp_r, evOp_d, evOp_dr, kpo_refl, kpo_app, cnd_some, cnd_pair, cnd_cnd_t, cnd_cnd_f, cnd_same, cnd_dvb, cnd_and, cnd_or, ↓evx_pick, gd_bool, gd_boolf, gd_tup, cnd_t, cnd_f, evTo, isCall, evx, put, lk, Od.v, keepEnv, enterEnv, ldx_ref, rdc, binx, binI, binS, unx, eqk, DV.isU, DV.cells, hget, hget0, hset, hset0, stx_ref, splice, DV.one, fillp, mat, eqcs, eqs, h1, e15, e17, r14]; exact ⟨rfl, rfl⟩)] | rw [t_cnd (by simp [lk, keepEnv, Od.v, h1, e15, e17, r14]; exact rfl)] | rw [t_blk]))
      simp [ends_ret, ends_norm, resL, evOps, evOp_n, evOp_r, evOp_d, evOp_dr, kpo_refl, kpo_app, cnd_some, cnd_pair, cnd_cnd_t, cnd_cnd_f, cnd_same, cnd_dvb, cnd_and, cnd_or, ↓evx_pick, gd_bool, gd_boolf, gd_tup, cnd_t, cnd_f, evTo, isCall, evx, put, lk, Od.v, keepEnv, enterEnv, ldx_ref, rdc, binx, binI, binS, unx, eqk, DV.isU, DV.cells, hget, hget0, hset, hset0, stx_ref, splice, DV.one, fillp, mat, eqcs, eqs, fin, fz0, fz1, fzT, fzL, nlt, h1]
    · have r14 := e14 (h := [.row 3 1 0 (l.map iD), .row 3 1 0 (l.map iD)]) (A := .row 0 0 0 l.length false) (B := .row 1 0 0 l.length false) (l := l) (by simp [vw, List.take_of_length_le]) (by simp [vw, List.take_of_length_le]) (by omega)
      (repeat (first | rw [s_assoc] | rw [s_seq_reg (by simp [evOps, evOp_n, evOp_r, evOp_d, evOp_dr, kpo_refl, kpo_app, cnd_some, cnd_pair, cnd_cnd_t, cnd_cnd_f, cnd_same, cnd_dvb, cnd_and, cnd_or, ↓evx_pick, gd_bool, gd_boolf, gd_tup, cnd_t, cnd_f, evTo, isCall, evx, put, lk, Od.v, keepEnv, enterEnv, ldx_ref, rdc, binx, binI, binS, unx, eqk, DV.isU, DV.cells, hget, hget0, hset, hset0, stx_ref, splice, DV.one, fillp, mat, eqcs, eqs, h1, e15, e17, r14]; exact ⟨rfl, rfl⟩)] | rw [s_cnd (by simp [lk, keepEnv, Od.v, h1, e15, e17, r14]; exact rfl)] | rw [cnd_t] | rw [cnd_f] | rw [s_skip] | rw [s_ret] | rw [s_exit] | rw [C_ret] | rw [C_exit] | rw [C_skip] | rw [blk_ret] | rw [blk_norm] | rw [blk_exit] | rw [blk_exit' (by decide)] | rw [blkT_ret] | rw [blkT_norm] | rw [blkT_exit] | rw [blkT_exit' (by decide)] | rw [s_blk] | rw [s_reg (by simp [evOps, evOp_n, evOp_r, evOp_d, evOp_dr, kpo_refl, kpo_app, cnd_some, cnd_pair, cnd_cnd_t, cnd_cnd_f, cnd_same, cnd_dvb, cnd_and, cnd_or, ↓evx_pick, gd_bool, gd_boolf, gd_tup, cnd_t, cnd_f, evTo, isCall, evx, put, lk, Od.v, keepEnv, enterEnv, ldx_ref, rdc, binx, binI, binS, unx, eqk, DV.isU, DV.cells, hget, hget0, hset, hset0, stx_ref, splice, DV.one, fillp, mat, eqcs, eqs, h1, e15, e17, r14]; exact ⟨rfl, rfl⟩)] | rw [t_cnd (by simp [lk, keepEnv, Od.v, h1, e15, e17, r14]; exact rfl)] | rw [t_blk]))
      simp [ends_ret, ends_norm, resL, evOps, evOp_n, evOp_r, evOp_d, evOp_dr, kpo_refl, kpo_app, cnd_some, cnd_pair, cnd_cnd_t, cnd_cnd_f, cnd_same, cnd_dvb, cnd_and, cnd_or, ↓evx_pick, gd_bool, gd_boolf, gd_tup, cnd_t, cnd_f, evTo, isCall, evx, put, lk, Od.v, keepEnv, enterEnv, ldx_ref, rdc, binx, binI, binS, unx, eqk, DV.isU, DV.cells, hget, hget0, hset, hset0, stx_ref, splice, DV.one, fillp, mat, eqcs, eqs, fin, fz0, fz1, fzT, fzL, nlt, h1]
end
end Go.Proofs.YtfgnefnpfgdliaaDoor
