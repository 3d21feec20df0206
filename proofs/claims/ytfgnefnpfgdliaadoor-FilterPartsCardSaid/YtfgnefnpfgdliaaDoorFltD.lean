/- Ideal runs: the sets of all nodes of a filter; the rows for which it holds. -/
import Derived.Test.YtfgnefnpfgdliaaDoorFltC
namespace Go.Proofs.YtfgnefnpfgdliaaDoor
set_option linter.unusedVariables false
set_option linter.unusedSimpArgs false
set_option maxRecDepth 10000
/-- The words of all nodes' sets. -/
def dnW (n : Nat) (leaf : N → List Nat) (xs : List N) : List (List Nat) := xs.foldl (fun dn x => dn ++ [stepW n leaf dn x]) []
theorem dnW_snoc (n : Nat) (leaf : N → List Nat) (xs : List N) (x : N) : dnW n leaf (xs ++ [x]) = dnW n leaf xs ++ [stepW n leaf (dnW n leaf xs) x] := by
  simp [dnW, List.foldl_append]
theorem dnW_len (n : Nat) (leaf : N → List Nat) (xs : List N) : (dnW n leaf xs).length = xs.length := by
  have : ∀ (l : List N) (dn : List (List Nat)), (l.foldl (fun dn x => dn ++ [stepW n leaf dn x]) dn).length = dn.length + l.length := by
    intro l
    induction l with
    | nil => intro dn; simp
    | cons a l ih => intro dn; simp [ih]; omega
  simpa [dnW] using this xs []
/-- The words of a filter's set. -/
def setsW (n : Nat) (leaf : N → List Nat) (xs : List N) : List Nat := if xs.length = 0 then uptoW n else (dnW n leaf xs).getD (xs.length - 1) []
/-- A heap that only grew. -/
def Up (H h : Heap) : Prop := h.take H.length = H
theorem Up.ex {H h : Heap} (u : Up H h) : ∃ L, h = H ++ L := ⟨h.drop H.length, by
  have := List.take_append_drop H.length h
  rw [u] at this
  exact this.symm⟩
theorem loop34 {H : Heap} {L : DV} {xs : List N} {n f : Nat} {cap : List DV} {leaf : N → List Nat} (hn : n ≤ 65536) (hL : ∀ G, vw (H ++ G) 8 L = some (xs.map N.d)) (hb : xs.length ≤ 1000000) (hlf : LeafOk H f cap leaf) :
    ∀ (m i : Nat) (h : Heap) (D : DV) (ds : List DV), xs.length - i ≤ m → i ≤ xs.length → DoneAt H h D ds → SetsV ds (dnW n leaf (xs.take i)) →
      ∃ y ex h' D' ds', C X (.loop lp34_0) [(1, .int .i64 n), (2, .func f cap []), (6, .ref H.length 0), (7, .ref (H.length + 1) 0), (8, .func 60 [] [.ref (H.length + 1) 0]), (18, L), (19, .int .i64 xs.length), (20, .int .i64 i)] h =
        some (.exit 0, (1, .int .i64 n) :: (2, .func f cap []) :: (6, .ref H.length 0) :: (7, .ref (H.length + 1) 0) :: (8, .func 60 [] [.ref (H.length + 1) 0]) :: (18, L) :: (19, .int .i64 xs.length) :: (20, y) :: ex, h') ∧
        DoneAt H h' D' ds' ∧ SetsV ds' (dnW n leaf xs) := by
  intro m
  induction m with
  | zero =>
    intro i h D ds hm hi hD hS
    obtain rfl : i = xs.length := by omega
    rw [List.take_length] at hS
    refine ⟨.int .i64 xs.length, [(21, .bool false)], h, D, ds, ?_, hD, hS⟩
    rw [t_loop]
    unfold lp34_0
    (repeat (first | rw [s_assoc] | rw [s_seq_reg (by simp [evOps, evOp_n, evOp_r, evOp_d, evOp_dr, kpo_refl, kpo_app, cnd_some, cnd_pair, cnd_cnd_t, cnd_cnd_f, cnd_same, cnd_dvb, cnd_and, cnd_or, ↓evx_pick, gd_bool, gd_boolf, gd_tup, cnd_t, cnd_f, evTo, isCall, evx, put, lk, Od.v, keepEnv, enterEnv, ldx_ref, rdc, binx, binI, binS, unx, eqk, DV.isU, DV.cells, hget, hget0, hset, hset0, stx_ref, splice, DV.one, fillp, mat, eqcs, eqs]; exact ⟨rfl, rfl⟩)] | rw [s_cnd (by simp [lk, keepEnv, Od.v]; exact rfl)] | rw [cnd_t] | rw [cnd_f] | rw [s_skip] | rw [s_ret] | rw [s_exit] | rw [C_ret] | rw [C_exit] | rw [C_skip] | rw [blk_ret] | rw [blk_norm] | rw [blk_exit] | rw [blk_exit' (by decide)] | rw [blkT_ret] | rw [blkT_norm] | rw [blkT_exit] | rw [blkT_exit' (by decide)] | rw [s_blk] | rw [s_reg (by simp [evOps, evOp_n, evOp_r, evOp_d, evOp_dr, kpo_refl, kpo_app, cnd_some, cnd_pair, cnd_cnd_t, cnd_cnd_f, cnd_same, cnd_dvb, cnd_and, cnd_or, ↓evx_pick, gd_bool, gd_boolf, gd_tup, cnd_t, cnd_f, evTo, isCall, evx, put, lk, Od.v, keepEnv, enterEnv, ldx_ref, rdc, binx, binI, binS, unx, eqk, DV.isU, DV.cells, hget, hget0, hset, hset0, stx_ref, splice, DV.one, fillp, mat, eqcs, eqs]; exact ⟨rfl, rfl⟩)] | rw [t_cnd (by simp [lk, keepEnv, Od.v]; exact rfl)] | rw [t_blk]))
    rw [lp_exit]
    simp [keepEnv, lk]
  | succ m ih =>
    intro i h D ds hm hi hD hS
    by_cases c1 : i < xs.length
    · obtain ⟨I, hI⟩ : ∃ I, I = i + 1 := ⟨_, rfl⟩
      obtain ⟨G, hG⟩ := Up.ex hD.pre
      have hv : vw h 8 L = some (xs.map N.d) := by rw [hG]; exact hL G
      have hdl : ds.length ≤ 1000000 := by rw [hS.1, dnW_len, List.length_take]; omega
      obtain ⟨h', D', d, hc, hD', hV⟩ := step34 (f := f) (cap := cap) (leaf := leaf) hn hv hb hD hS hdl (fun G' x => by rw [hG, List.append_assoc]; exact hlf (G ++ G') x) c1 hI
      have ht : xs.take I = xs.take i ++ [xs[i]] := by rw [hI, List.take_add_one, List.getElem?_eq_getElem c1]; rfl
      rw [t_loop, hc, lp_norm]
      refine ih I h' D' (ds ++ [d]) (by omega) (by omega) hD' ?_
      rw [ht, dnW_snoc]
      exact hS.snoc hV
    · exact ih i h D ds (by omega) hi hD hS
theorem run34 {H : Heap} {L : DV} {xs : List N} {n f : Nat} {cap : List DV} {leaf : N → List Nat} (hn : n ≤ 65536) (hL : ∀ G, vw (H ++ G) 8 L = some (xs.map N.d)) (hb : xs.length ≤ 1000000) (hlf : LeafOk H f cap leaf) :
    ∃ W, E X 34 [L, .int .i64 n, .func f cap []] H = some (.agg [W], H) ∧ WL W (setsW n leaf xs) ∧ WB (setsW n leaf xs) ∧ (setsW n leaf xs).length ≤ 1024 := by
  have hv1 := hL [.box 34 [.nils]]
  have hlen : (xs.map N.d).length = xs.length := by simp
  by_cases c0 : xs.length = 0
  · have e40 := run40 n hn (H ++ [.box 34 [.nils]])
    refine ⟨.list 1 ((uptoW n).map uD) false, ?_, by simp only [setsW, if_pos c0]; exact .inl rfl, by simp only [setsW, if_pos c0]; exact uptoW_WB n, by simp only [setsW, if_pos c0]; exact uptoW_ln hn⟩
    have c0' : xs = [] := List.length_eq_zero_iff.1 c0
    subst c0'
    generalize uptoW n = up at *
    rw [E_go (X := X) _ b34 _ rfl rfl]; unfold b34
    (repeat (first | rw [s_assoc] | rw [s_seq_reg (by simp [evOps, evOp_n, evOp_r, evOp_d, evOp_dr, kpo_refl, kpo_app, cnd_some, cnd_pair, cnd_cnd_t, cnd_cnd_f, cnd_same, cnd_dvb, cnd_and, cnd_or, ↓evx_pick, gd_bool, gd_boolf, gd_tup, cnd_t, cnd_f, evTo, isCall, evx, put, lk, Od.v, keepEnv, enterEnv, ldx_ref, rdc, binx, binI, binS, unx, eqk, DV.isU, DV.cells, hget, hget0, hset, hset0, stx_ref, splice, DV.one, fillp, mat, eqcs, eqs, hv1, e40]; exact ⟨rfl, rfl⟩)] | rw [s_cnd (by simp [lk, keepEnv, Od.v, hv1, e40]; exact rfl)] | rw [cnd_t] | rw [cnd_f] | rw [s_skip] | rw [s_ret] | rw [s_exit] | rw [C_ret] | rw [C_exit] | rw [C_skip] | rw [blk_ret] | rw [blk_norm] | rw [blk_exit] | rw [blk_exit' (by decide)] | rw [blkT_ret] | rw [blkT_norm] | rw [blkT_exit] | rw [blkT_exit' (by decide)] | rw [s_blk] | rw [s_reg (by simp [evOps, evOp_n, evOp_r, evOp_d, evOp_dr, kpo_refl, kpo_app, cnd_some, cnd_pair, cnd_cnd_t, cnd_cnd_f, cnd_same, cnd_dvb, cnd_and, cnd_or, ↓evx_pick, gd_bool, gd_boolf, gd_tup, cnd_t, cnd_f, evTo, isCall, evx, put, lk, Od.v, keepEnv, enterEnv, ldx_ref, rdc, binx, binI, binS, unx, eqk, DV.isU, DV.cells, hget, hget0, hset, hset0, stx_ref, splice, DV.one, fillp, mat, eqcs, eqs, hv1, e40]; exact ⟨rfl, rfl⟩)] | rw [t_cnd (by simp [lk, keepEnv, Od.v, hv1, e40]; exact rfl)] | rw [t_blk]))
    simp [ends_norm, ends_ret, resL, keepEnv, lk, ldx_ref, hget, hget0, hset, hset0, rdc]
    exact fin_set
  · have hv2 := hL [.box 34 [.nils], .box 96 [.nils]]
    have hD0 : DoneAt H (H ++ [.box 34 [.nils], .box 96 [.nils]]) .nils [] := ⟨List.take_left, by simp [hget0], by simp [hget], .inl ⟨rfl, rfl⟩⟩
    obtain ⟨y, ex, h', D', ds', hc, hD, hS⟩ := loop34 hn hL hb hlf xs.length 0 _ _ _ (by omega) (by omega) hD0 ⟨rfl, fun i d ws h1 => by simp at h1⟩
    rw [show ((0 : Nat) : Int) = 0 from rfl] at hc
    unfold lp34_0 at hc
    have hl : ds'.length = xs.length := by rw [hS.1, dnW_len]
    have hk : xs.length - 1 < ds'.length := by omega
    have hk2 : xs.length - 1 < (dnW n leaf xs).length := by rw [dnW_len]; omega
    obtain ⟨⟨W, hW1, hW⟩, hB, hw⟩ := hS.2 _ _ _ (List.getElem?_eq_getElem hk) (List.getElem?_eq_getElem hk2)
    have hsW : setsW n leaf xs = (dnW n leaf xs)[xs.length - 1] := by simp only [setsW, if_neg c0, List.getD, List.getElem?_eq_getElem hk2, Option.getD_some]
    rw [← hsW] at hW hB hw
    refine ⟨W, ?_, hW, hB, hw⟩
    have c0' : ((xs.length : Int) == 0) = false := by simpa using c0
    have c1 : IntKind.i64.wrap ((xs.length : Int) - 1) = ((xs.length - 1 : Nat) : Int) := (by rw [wrap64 _ (by omega) (by omega)]; omega)
    generalize hK : xs.length - 1 = K at *
    have g6 := hD.b6
    have g7 := hD.b7
    have gv := hD.vw
    have g4 : H.length < h'.length := by have := hD.len; omega
    have g3 : (h'.set H.length (.box 34 [W]))[H.length]? = some (.box 34 [W]) := List.getElem?_set_self g4
    have hf : fin H (h'.set H.length (.box 34 [W])) [.agg [W]] = (.agg [W], H) := fin_wl hW (by
      rw [List.take_set, List.set_eq_of_length_le (by simp; omega)]; exact hD.pre)
    have hrow : ∃ o g, D' = .row o g 0 ds'.length false := by
      rcases hD.row with ⟨_, h1⟩ | ⟨o, g, h1, _⟩
      · subst h1; simp at hl; omega
      · exact ⟨o, g, h1⟩
    obtain ⟨o, g, hrow⟩ := hrow
    have hlen' : ds'.length = xs.length := hl
    clear hD hS hD0 hL hlf hsW hB hw
    rw [E_go (X := X) _ b34 _ rfl rfl]; unfold b34
    (repeat (first | rw [s_assoc] | rw [s_seq_reg (by simp [evOps, evOp_n, evOp_r, evOp_d, evOp_dr, kpo_refl, kpo_app, cnd_some, cnd_pair, cnd_cnd_t, cnd_cnd_f, cnd_same, cnd_dvb, cnd_and, cnd_or, ↓evx_pick, gd_bool, gd_boolf, gd_tup, cnd_t, cnd_f, evTo, isCall, evx, put, lk, Od.v, keepEnv, enterEnv, ldx_ref, rdc, binx, binI, binS, unx, eqk, DV.isU, DV.cells, hget, hget0, hset, hset0, stx_ref, splice, DV.one, fillp, mat, eqcs, eqs, hv1, hv2, hlen, c0']; exact ⟨rfl, rfl⟩)] | rw [s_cnd (by simp [lk, keepEnv, Od.v, hv1, hv2, hlen, c0']; exact rfl)] | rw [cnd_t] | rw [cnd_f] | rw [s_skip] | rw [s_ret] | rw [s_exit] | rw [C_ret] | rw [C_exit] | rw [C_skip] | rw [blk_ret] | rw [blk_norm] | rw [blk_exit] | rw [blk_exit' (by decide)] | rw [blkT_ret] | rw [blkT_norm] | rw [blkT_exit] | rw [blkT_exit' (by decide)] | rw [s_blk] | rw [s_reg (by simp [evOps, evOp_n, evOp_r, evOp_d, evOp_dr, kpo_refl, kpo_app, cnd_some, cnd_pair, cnd_cnd_t, cnd_cnd_f, cnd_same, cnd_dvb, cnd_and, cnd_or, ↓evx_pick, gd_bool, gd_boolf, gd_tup, cnd_t, cnd_f, evTo, isCall, evx, put, lk, Od.v, keepEnv, enterEnv, ldx_ref, rdc, binx, binI, binS, unx, eqk, DV.isU, DV.cells, hget, hget0, hset, hset0, stx_ref, splice, DV.one, fillp, mat, eqcs, eqs, hv1, hv2, hlen, c0']; exact ⟨rfl, rfl⟩)] | rw [t_cnd (by simp [lk, keepEnv, Od.v, hv1, hv2, hlen, c0']; exact rfl)] | rw [t_blk]))
    (try simp only [keepEnv, List.map_cons, List.map_nil, lk, reduceIte, Nat.reduceEqDiff, Nat.zero_ne_one, Nat.one_ne_zero])
    rw [hc]
    subst hrow
    have hk' : K < xs.length := by omega
    rw [hl] at g7 gv
    rcases hW with rfl | ⟨rfl, hz⟩
    · (repeat (first | rw [s_assoc] | rw [s_seq_reg (by simp [evOps, evOp_n, evOp_r, evOp_d, evOp_dr, kpo_refl, kpo_app, cnd_some, cnd_pair, cnd_cnd_t, cnd_cnd_f, cnd_same, cnd_dvb, cnd_and, cnd_or, ↓evx_pick, gd_bool, gd_boolf, gd_tup, cnd_t, cnd_f, evTo, isCall, evx, put, lk, Od.v, keepEnv, enterEnv, ldx_ref, rdc, binx, binI, binS, unx, eqk, DV.isU, DV.cells, hget, hget0, hset, hset0, stx_ref, splice, DV.one, fillp, mat, eqcs, eqs, g6, g7, gv, hl, c1, hk, hk', hW1, ldx]; exact ⟨rfl, rfl⟩)] | rw [s_cnd (by simp [lk, keepEnv, Od.v, g6, g7, gv, hl, c1, hk, hk', hW1, ldx]; exact rfl)] | rw [cnd_t] | rw [cnd_f] | rw [s_skip] | rw [s_ret] | rw [s_exit] | rw [C_ret] | rw [C_exit] | rw [C_skip] | rw [blk_ret] | rw [blk_norm] | rw [blk_exit] | rw [blk_exit' (by decide)] | rw [blkT_ret] | rw [blkT_norm] | rw [blkT_exit] | rw [blkT_exit' (by decide)] | rw [s_blk] | rw [s_reg (by simp [evOps, evOp_n, evOp_r, evOp_d, evOp_dr, kpo_refl, kpo_app, cnd_some, cnd_pair, cnd_cnd_t, cnd_cnd_f, cnd_same, cnd_dvb, cnd_and, cnd_or, ↓evx_pick, gd_bool, gd_boolf, gd_tup, cnd_t, cnd_f, evTo, isCall, evx, put, lk, Od.v, keepEnv, enterEnv, ldx_ref, rdc, binx, binI, binS, unx, eqk, DV.isU, DV.cells, hget, hget0, hset, hset0, stx_ref, splice, DV.one, fillp, mat, eqcs, eqs, g6, g7, gv, hl, c1, hk, hk', hW1, ldx]; exact ⟨rfl, rfl⟩)] | rw [t_cnd (by simp [lk, keepEnv, Od.v, g6, g7, gv, hl, c1, hk, hk', hW1, ldx]; exact rfl)] | rw [t_blk]))
      simp [ends_norm, ends_ret, resL, keepEnv, lk, ldx_ref, g3, rdc]
      exact hf
    · (repeat (first | rw [s_assoc] | rw [s_seq_reg (by simp [evOps, evOp_n, evOp_r, evOp_d, evOp_dr, kpo_refl, kpo_app, cnd_some, cnd_pair, cnd_cnd_t, cnd_cnd_f, cnd_same, cnd_dvb, cnd_and, cnd_or, ↓evx_pick, gd_bool, gd_boolf, gd_tup, cnd_t, cnd_f, evTo, isCall, evx, put, lk, Od.v, keepEnv, enterEnv, ldx_ref, rdc, binx, binI, binS, unx, eqk, DV.isU, DV.cells, hget, hget0, hset, hset0, stx_ref, splice, DV.one, fillp, mat, eqcs, eqs, g6, g7, gv, hl, c1, hk, hk', hW1, ldx]; exact ⟨rfl, rfl⟩)] | rw [s_cnd (by simp [lk, keepEnv, Od.v, g6, g7, gv, hl, c1, hk, hk', hW1, ldx]; exact rfl)] | rw [cnd_t] | rw [cnd_f] | rw [s_skip] | rw [s_ret] | rw [s_exit] | rw [C_ret] | rw [C_exit] | rw [C_skip] | rw [blk_ret] | rw [blk_norm] | rw [blk_exit] | rw [blk_exit' (by decide)] | rw [blkT_ret] | rw [blkT_norm] | rw [blkT_exit] | rw [blkT_exit' (by decide)] | rw [s_blk] | rw [s_reg (by simp [evOps, evOp_n, evOp_r, evOp_d, evOp_dr, kpo_refl, kpo_app, cnd_some, cnd_pair, cnd_cnd_t, cnd_cnd_f, cnd_same, cnd_dvb, cnd_and, cnd_or, ↓evx_pick, gd_bool, gd_boolf, gd_tup, cnd_t, cnd_f, evTo, isCall, evx, put, lk, Od.v, keepEnv, enterEnv, ldx_ref, rdc, binx, binI, binS, unx, eqk, DV.isU, DV.cells, hget, hget0, hset, hset0, stx_ref, splice, DV.one, fillp, mat, eqcs, eqs, g6, g7, gv, hl, c1, hk, hk', hW1, ldx]; exact ⟨rfl, rfl⟩)] | rw [t_cnd (by simp [lk, keepEnv, Od.v, g6, g7, gv, hl, c1, hk, hk', hW1, ldx]; exact rfl)] | rw [t_blk]))
      simp [ends_norm, ends_ret, resL, keepEnv, lk, ldx_ref, g3, rdc]
      exact hf
end Go.Proofs.YtfgnefnpfgdliaaDoor
