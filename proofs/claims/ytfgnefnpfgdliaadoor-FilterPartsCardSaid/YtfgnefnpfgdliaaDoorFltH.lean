/- Ideal runs: the document's functions: does a filter hold for a row; for which rows. -/
import Derived.Test.YtfgnefnpfgdliaaDoorFltG
namespace Go.Proofs.YtfgnefnpfgdliaaDoor
set_option linter.unusedVariables false
set_option linter.unusedSimpArgs false
set_option maxRecDepth 10000
/-- The truths of all nodes. -/
def refB (vs : List V) (xs : List N) : List Bool := xs.foldl (fun dn x => dn ++ [refStep vs dn x]) []
theorem refB_snoc (vs : List V) (xs : List N) (x : N) : refB vs (xs ++ [x]) = refB vs xs ++ [refStep vs (refB vs xs) x] := by
  simp [refB, List.foldl_append]
theorem refB_len (vs : List V) (xs : List N) : (refB vs xs).length = xs.length := by
  have : ∀ (l : List N) (dn : List Bool), (l.foldl (fun dn x => dn ++ [refStep vs dn x]) dn).length = dn.length + l.length := by
    intro l
    induction l with
    | nil => intro dn; simp
    | cons a l ih => intro dn; simp [ih]; omega
  simpa [refB] using this xs []
/-- Does a filter hold for a row, as the document says? -/
def holdsR (xs : List N) (vs : List V) : Bool := if xs.length = 0 then true else (refB vs xs).getD (xs.length - 1) false
theorem loop13 {H : Heap} {L A : DV} {xs : List N} {vs : List V} (hL : ∀ G, vw (H ++ G) 8 L = some (xs.map N.d)) (hA : RowL A vs) (hb : xs.length ≤ 1000000) (sx : ∀ x ∈ xs, Sm x.val) (sv : ∀ v ∈ vs, Sm v) :
    ∀ (m i : Nat) (h : Heap) (bl : List DV), xs.length - i ≤ m → i ≤ xs.length → RefAt H h xs.length bl (refB vs (xs.take i)) →
      ∃ y ex h' bl', C X (.loop lp13_0) [(0, L), (1, A), (5, .row H.length 0 0 xs.length false), (6, .int .i64 i)] h = some (.exit 0, (0, L) :: (1, A) :: (5, .row H.length 0 0 xs.length false) :: (6, y) :: ex, h') ∧ RefAt H h' xs.length bl' (refB vs xs) := by
  intro m
  induction m with
  | zero =>
    intro i h bl hm hi hR
    obtain rfl : i = xs.length := by omega
    rw [List.take_length] at hR
    obtain ⟨G, hG⟩ := Up.ex hR.pre
    have hv : vw h 8 L = some (xs.map N.d) := by rw [hG]; exact hL G
    refine ⟨.int .i64 xs.length, [(20, .bool false)], h, bl, ?_, hR⟩
    rw [t_loop]
    unfold lp13_0
    (repeat (first | rw [s_assoc] | rw [s_seq_reg (by simp [evOps, evOp_n, evOp_r, evOp_d, evOp_dr, kpo_refl, kpo_app, cnd_some, cnd_pair, cnd_cnd_t, cnd_cnd_f, cnd_same, cnd_dvb, cnd_and, cnd_or, ↓evx_pick, gd_bool, gd_boolf, gd_tup, cnd_t, cnd_f, evTo, isCall, evx, put, lk, Od.v, keepEnv, enterEnv, ldx_ref, rdc, binx, binI, binS, unx, eqk, DV.isU, DV.cells, hget, hget0, hset, hset0, stx_ref, splice, DV.one, fillp, mat, eqcs, eqs, hv]; exact ⟨rfl, rfl⟩)] | rw [s_cnd (by simp [lk, keepEnv, Od.v, hv]; exact rfl)] | rw [cnd_t] | rw [cnd_f] | rw [s_skip] | rw [s_ret] | rw [s_exit] | rw [C_ret] | rw [C_exit] | rw [C_skip] | rw [blk_ret] | rw [blk_norm] | rw [blk_exit] | rw [blk_exit' (by decide)] | rw [blkT_ret] | rw [blkT_norm] | rw [blkT_exit] | rw [blkT_exit' (by decide)] | rw [s_blk] | rw [s_reg (by simp [evOps, evOp_n, evOp_r, evOp_d, evOp_dr, kpo_refl, kpo_app, cnd_some, cnd_pair, cnd_cnd_t, cnd_cnd_f, cnd_same, cnd_dvb, cnd_and, cnd_or, ↓evx_pick, gd_bool, gd_boolf, gd_tup, cnd_t, cnd_f, evTo, isCall, evx, put, lk, Od.v, keepEnv, enterEnv, ldx_ref, rdc, binx, binI, binS, unx, eqk, DV.isU, DV.cells, hget, hget0, hset, hset0, stx_ref, splice, DV.one, fillp, mat, eqcs, eqs, hv]; exact ⟨rfl, rfl⟩)] | rw [t_cnd (by simp [lk, keepEnv, Od.v, hv]; exact rfl)] | rw [t_blk]))
    rw [lp_exit]
    simp [keepEnv, lk]
  | succ m ih =>
    intro i h bl hm hi hR
    by_cases c1 : i < xs.length
    · obtain ⟨I, hI⟩ : ∃ I, I = i + 1 := ⟨_, rfl⟩
      obtain ⟨G, hG⟩ := Up.ex hR.pre
      have hv : vw h 8 L = some (xs.map N.d) := by rw [hG]; exact hL G
      have hdn : (refB vs (xs.take i)).length = i := by rw [refB_len, List.length_take]; omega
      have hc := step13 hv hA hb hR c1 hI hdn rfl (sx _ (List.getElem_mem _)) sv
      have hn := hR.next [HO.box 41 xs[i].d.cells] (by rw [hdn]; exact c1) (refStep vs (refB vs (xs.take i)) xs[i])
      rw [hdn] at hn
      have ht : xs.take I = xs.take i ++ [xs[i]] := by rw [hI, List.take_add_one, List.getElem?_eq_getElem c1]; rfl
      rw [t_loop, hc, lp_norm]
      rw [← refB_snoc, ← ht] at hn
      exact ih I _ _ (by omega) (by omega) hn
    · exact ih i h bl (by omega) hi hR
theorem fin_pl {H h : Heap} {d : DV} (hp : d.plain = true) (ht : h.take H.length = H) : fin H h [d] = (d, H) := by
  simp [fin, ht, fz1_plain _ _ _ hp]
theorem run13 {H : Heap} {L A : DV} {xs : List N} {vs : List V} (hL : ∀ G, vw (H ++ G) 8 L = some (xs.map N.d)) (hA : RowL A vs) (hb : xs.length ≤ 1000000) (sx : ∀ x ∈ xs, Sm x.val) (sv : ∀ v ∈ vs, Sm v) :
    E X 13 [L, A] H = some (.bool (holdsR xs vs), H) := by
  have hv0 : vw H 8 L = some (xs.map N.d) := by have := hL []; rwa [List.append_nil] at this
  have hlen : (xs.map N.d).length = xs.length := by simp
  by_cases c0 : xs.length = 0
  · have c0' : xs = [] := List.length_eq_zero_iff.1 c0
    subst c0'
    rw [E_go (X := X) _ b13 _ rfl rfl]; unfold b13
    (repeat (first | rw [s_assoc] | rw [s_seq_reg (by simp [evOps, evOp_n, evOp_r, evOp_d, evOp_dr, kpo_refl, kpo_app, cnd_some, cnd_pair, cnd_cnd_t, cnd_cnd_f, cnd_same, cnd_dvb, cnd_and, cnd_or, ↓evx_pick, gd_bool, gd_boolf, gd_tup, cnd_t, cnd_f, evTo, isCall, evx, put, lk, Od.v, keepEnv, enterEnv, ldx_ref, rdc, binx, binI, binS, unx, eqk, DV.isU, DV.cells, hget, hget0, hset, hset0, stx_ref, splice, DV.one, fillp, mat, eqcs, eqs, hv0]; exact ⟨rfl, rfl⟩)] | rw [s_cnd (by simp [lk, keepEnv, Od.v, hv0]; exact rfl)] | rw [cnd_t] | rw [cnd_f] | rw [s_skip] | rw [s_ret] | rw [s_exit] | rw [C_ret] | rw [C_exit] | rw [C_skip] | rw [blk_ret] | rw [blk_norm] | rw [blk_exit] | rw [blk_exit' (by decide)] | rw [blkT_ret] | rw [blkT_norm] | rw [blkT_exit] | rw [blkT_exit' (by decide)] | rw [s_blk] | rw [s_reg (by simp [evOps, evOp_n, evOp_r, evOp_d, evOp_dr, kpo_refl, kpo_app, cnd_some, cnd_pair, cnd_cnd_t, cnd_cnd_f, cnd_same, cnd_dvb, cnd_and, cnd_or, ↓evx_pick, gd_bool, gd_boolf, gd_tup, cnd_t, cnd_f, evTo, isCall, evx, put, lk, Od.v, keepEnv, enterEnv, ldx_ref, rdc, binx, binI, binS, unx, eqk, DV.isU, DV.cells, hget, hget0, hset, hset0, stx_ref, splice, DV.one, fillp, mat, eqcs, eqs, hv0]; exact ⟨rfl, rfl⟩)] | rw [t_cnd (by simp [lk, keepEnv, Od.v, hv0]; exact rfl)] | rw [t_blk]))
    simp [ends_ret, ends_norm, resL, evOps, evOp_n, evOp_r, evOp_d, evOp_dr, kpo_refl, kpo_app, cnd_some, cnd_pair, cnd_cnd_t, cnd_cnd_f, cnd_same, cnd_dvb, cnd_and, cnd_or, ↓evx_pick, gd_bool, gd_boolf, gd_tup, cnd_t, cnd_f, evTo, isCall, evx, put, lk, Od.v, keepEnv, enterEnv, ldx_ref, rdc, binx, binI, binS, unx, eqk, DV.isU, DV.cells, hget, hget0, hset, hset0, stx_ref, splice, DV.one, fillp, mat, eqcs, eqs, fin, fz0, fz1, fzT, fzL, nlt, holdsR]
  · have hR0 : RefAt H (H ++ [.row 4 1 0 (List.replicate xs.length (.bool false))]) xs.length (List.replicate xs.length (.bool false)) (refB vs (xs.take 0)) := ⟨List.take_left, by simp, by simp, fun y hy => ⟨false, (List.mem_replicate.1 hy).2⟩, fun j hj => by simp [refB] at hj⟩
    obtain ⟨y, ex, h', bl', hc, hR⟩ := loop13 hL hA hb sx sv xs.length 0 _ _ (by omega) (by omega) hR0
    rw [show ((0 : Nat) : Int) = 0 from rfl] at hc
    unfold lp13_0 at hc
    have c0' : ((xs.length : Int) == 0) = false := by simpa using c0
    have c1 : IntKind.i64.wrap ((xs.length : Int) - 1) = ((xs.length - 1 : Nat) : Int) := (by rw [wrap64 _ (by omega) (by omega)]; omega)
    have z1 : Wc 1 (.bool false) := by simp [Wc, DV.cells, DV.one]
    have z2 : (xs.length : Int) * 1 ≤ 140737488355328 := by omega
    have z3 : (xs.length : Int) ≤ 140737488355328 := by omega
    have hbl := hR.len
    have hg := hR.get (xs.length - 1) (by rw [refB_len]; omega)
    have hH : holdsR xs vs = (refB vs xs).getD (xs.length - 1) false := by simp only [holdsR, if_neg c0]
    rw [← hH] at hg
    have hk : xs.length - 1 < bl'.length := by omega
    rw [List.getElem?_eq_getElem hk] at hg
    injection hg with hg
    have vR := hR.vw []
    rw [List.append_nil] at vR
    have hf := fin_pl (H := H) (h := h') (d := .bool (holdsR xs vs)) rfl hR.pre
    obtain ⟨G, hG⟩ := Up.ex hR.pre
    have hv' : vw h' 8 L = some (xs.map N.d) := by rw [hG]; exact hL G
    generalize hK : xs.length - 1 = K at *
    generalize holdsR xs vs = res at *
    have hk' : K < xs.length := by omega
    clear hR hR0 hH hL
    rw [E_go (X := X) _ b13 _ rfl rfl]; unfold b13
    (repeat (first | rw [s_assoc] | rw [s_seq_reg (by simp [evOps, evOp_n, evOp_r, evOp_d, evOp_dr, kpo_refl, kpo_app, cnd_some, cnd_pair, cnd_cnd_t, cnd_cnd_f, cnd_same, cnd_dvb, cnd_and, cnd_or, ↓evx_pick, gd_bool, gd_boolf, gd_tup, cnd_t, cnd_f, evTo, isCall, evx, put, lk, Od.v, keepEnv, enterEnv, ldx_ref, rdc, binx, binI, binS, unx, eqk, DV.isU, DV.cells, hget, hget0, hset, hset0, stx_ref, splice, DV.one, fillp, mat, eqcs, eqs, hv0, hlen, c0', z1, z2, z3]; exact ⟨rfl, rfl⟩)] | rw [s_cnd (by simp [lk, keepEnv, Od.v, hv0, hlen, c0', z1, z2, z3]; exact rfl)] | rw [cnd_t] | rw [cnd_f] | rw [s_skip] | rw [s_ret] | rw [s_exit] | rw [C_ret] | rw [C_exit] | rw [C_skip] | rw [blk_ret] | rw [blk_norm] | rw [blk_exit] | rw [blk_exit' (by decide)] | rw [blkT_ret] | rw [blkT_norm] | rw [blkT_exit] | rw [blkT_exit' (by decide)] | rw [s_blk] | rw [s_reg (by simp [evOps, evOp_n, evOp_r, evOp_d, evOp_dr, kpo_refl, kpo_app, cnd_some, cnd_pair, cnd_cnd_t, cnd_cnd_f, cnd_same, cnd_dvb, cnd_and, cnd_or, ↓evx_pick, gd_bool, gd_boolf, gd_tup, cnd_t, cnd_f, evTo, isCall, evx, put, lk, Od.v, keepEnv, enterEnv, ldx_ref, rdc, binx, binI, binS, unx, eqk, DV.isU, DV.cells, hget, hget0, hset, hset0, stx_ref, splice, DV.one, fillp, mat, eqcs, eqs, hv0, hlen, c0', z1, z2, z3]; exact ⟨rfl, rfl⟩)] | rw [t_cnd (by simp [lk, keepEnv, Od.v, hv0, hlen, c0', z1, z2, z3]; exact rfl)] | rw [t_blk]))
    (try simp only [keepEnv, List.map_cons, List.map_nil, lk, reduceIte, Nat.reduceEqDiff, Nat.zero_ne_one, Nat.one_ne_zero])
    rw [hc]
    clear hc
    (repeat (first | rw [s_assoc] | rw [s_seq_reg (by simp [evOps, evOp_n, evOp_r, evOp_d, evOp_dr, kpo_refl, kpo_app, cnd_some, cnd_pair, cnd_cnd_t, cnd_cnd_f, cnd_same, cnd_dvb, cnd_and, cnd_or, ↓evx_pick, gd_bool, gd_boolf, gd_tup, cnd_t, cnd_f, evTo, isCall, evx, put, lk, Od.v, keepEnv, enterEnv, ldx_ref, rdc, binx, binI, binS, unx, eqk, DV.isU, DV.cells, hget, hget0, hset, hset0, stx_ref, splice, DV.one, fillp, mat, eqcs, eqs, hv', vR, hbl, c1, hk', hg, ldx]; exact ⟨rfl, rfl⟩)] | rw [s_cnd (by simp [lk, keepEnv, Od.v, hv', vR, hbl, c1, hk', hg, ldx]; exact rfl)] | rw [cnd_t] | rw [cnd_f] | rw [s_skip] | rw [s_ret] | rw [s_exit] | rw [C_ret] | rw [C_exit] | rw [C_skip] | rw [blk_ret] | rw [blk_norm] | rw [blk_exit] | rw [blk_exit' (by decide)] | rw [blkT_ret] | rw [blkT_norm] | rw [blkT_exit] | rw [blkT_exit' (by decide)] | rw [s_blk] | rw [s_reg (by simp [evOps, evOp_n, evOp_r, evOp_d, evOp_dr, kpo_refl, kpo_app, cnd_some, cnd_pair, cnd_cnd_t, cnd_cnd_f, cnd_same, cnd_dvb, cnd_and, cnd_or, ↓evx_pick, gd_bool, gd_boolf, gd_tup, cnd_t, cnd_f, evTo, isCall, evx, put, lk, Od.v, keepEnv, enterEnv, ldx_ref, rdc, binx, binI, binS, unx, eqk, DV.isU, DV.cells, hget, hget0, hset, hset0, stx_ref, splice, DV.one, fillp, mat, eqcs, eqs, hv', vR, hbl, c1, hk', hg, ldx]; exact ⟨rfl, rfl⟩)] | rw [t_cnd (by simp [lk, keepEnv, Od.v, hv', vR, hbl, c1, hk', hg, ldx]; exact rfl)] | rw [t_blk]))
    simp [ends_norm, ends_ret, resL, keepEnv, lk]
    exact hf
/-- The rows for which a filter holds, as the document says. -/
def rowsI (xs : List N) (rs : List (List V)) (n : Nat) : List Nat := (List.range n).filter fun i => holdsR xs (rs.getD i [])
theorem rowsI_succ (xs : List N) (rs : List (List V)) (i : Nat) {vs : List V} (h : rs[i]? = some vs) : rowsI xs rs (i + 1) = if holdsR xs vs = true then rowsI xs rs i ++ [i] else rowsI xs rs i := by
  simp only [rowsI, List.range_succ, List.filter_append, List.filter_cons, List.filter_nil, List.getD, h, Option.getD_some]
  split <;> simp
theorem rowsI_len (xs : List N) (rs : List (List V)) (i : Nat) : (rowsI xs rs i).length ≤ i := by
  have := List.length_filter_le (fun i => holdsR xs (rs.getD i [])) (List.range i)
  simpa [rowsI] using this
theorem loop17 {H : Heap} {L A : DV} {xs : List N} {ds : List DV} {rs : List (List V)} (hL : ∀ G, vw (H ++ G) 8 L = some (xs.map N.d)) (hA : ∀ G, vw (H ++ G) 1 A = some ds) (hd : RowsL ds rs) (hb : xs.length ≤ 1000000) (hll : rs.length ≤ 1000000) (sx : ∀ x ∈ xs, Sm x.val) (sv : ∀ vs ∈ rs, ∀ v ∈ vs, Sm v) :
    ∀ (m i : Nat) (w : DV) (h : Heap), rs.length - i ≤ m → i ≤ rs.length → MadeI h H w (rowsI xs rs i) →
      ∃ y ex w' h', C X (.loop lp17_0) [(0, L), (1, A), (5, w), (6, .int .i64 i)] h = some (.exit 0, (0, L) :: (1, A) :: (5, w') :: (6, y) :: ex, h') ∧ MadeI h' H w' (rowsI xs rs rs.length) := by
  intro m
  have hdl := hd.1
  induction m with
  | zero =>
    intro i w h hm hi hM
    obtain rfl : i = rs.length := by omega
    obtain ⟨G, hG⟩ := hM.ext
    have hv : vw h 1 A = some ds := by rw [hG]; exact hA _
    refine ⟨.int .i64 rs.length, [(10, .bool false)], w, h, ?_, hM⟩
    rw [t_loop]
    unfold lp17_0
    (repeat (first | rw [s_assoc] | rw [s_seq_reg (by simp [evOps, evOp_n, evOp_r, evOp_d, evOp_dr, kpo_refl, kpo_app, cnd_some, cnd_pair, cnd_cnd_t, cnd_cnd_f, cnd_same, cnd_dvb, cnd_and, cnd_or, ↓evx_pick, gd_bool, gd_boolf, gd_tup, cnd_t, cnd_f, evTo, isCall, evx, put, lk, Od.v, keepEnv, enterEnv, ldx_ref, rdc, binx, binI, binS, unx, eqk, DV.isU, DV.cells, hget, hget0, hset, hset0, stx_ref, splice, DV.one, fillp, mat, eqcs, eqs, hv, hdl]; exact ⟨rfl, rfl⟩)] | rw [s_cnd (by simp [lk, keepEnv, Od.v, hv, hdl]; exact rfl)] | rw [cnd_t] | rw [cnd_f] | rw [s_skip] | rw [s_ret] | rw [s_exit] | rw [C_ret] | rw [C_exit] | rw [C_skip] | rw [blk_ret] | rw [blk_norm] | rw [blk_exit] | rw [blk_exit' (by decide)] | rw [blkT_ret] | rw [blkT_norm] | rw [blkT_exit] | rw [blkT_exit' (by decide)] | rw [s_blk] | rw [s_reg (by simp [evOps, evOp_n, evOp_r, evOp_d, evOp_dr, kpo_refl, kpo_app, cnd_some, cnd_pair, cnd_cnd_t, cnd_cnd_f, cnd_same, cnd_dvb, cnd_and, cnd_or, ↓evx_pick, gd_bool, gd_boolf, gd_tup, cnd_t, cnd_f, evTo, isCall, evx, put, lk, Od.v, keepEnv, enterEnv, ldx_ref, rdc, binx, binI, binS, unx, eqk, DV.isU, DV.cells, hget, hget0, hset, hset0, stx_ref, splice, DV.one, fillp, mat, eqcs, eqs, hv, hdl]; exact ⟨rfl, rfl⟩)] | rw [t_cnd (by simp [lk, keepEnv, Od.v, hv, hdl]; exact rfl)] | rw [t_blk]))
    rw [lp_exit]
    simp [keepEnv, lk]
  | succ m ih =>
    intro i w h hm hi hM
    by_cases c1 : i < rs.length
    · obtain ⟨I, hI⟩ : ∃ I, I = i + 1 := ⟨_, rfl⟩
      have w1 : IntKind.i64.wrap ((i : Int) + 1) = (I : Int) := (by rw [wrap64 _ (by omega) (by omega)]; omega)
      obtain ⟨G, hG⟩ := hM.ext
      have hv : vw h 1 A = some ds := by rw [hG]; exact hA _
      have c1' : i < ds.length := by omega
      have hRow := hd.2 i _ _ (List.getElem?_eq_getElem c1') (List.getElem?_eq_getElem c1)
      have hlf := rowsI_succ xs rs i (List.getElem?_eq_getElem c1)
      have hll' := rowsI_len xs rs i
      obtain ⟨w', h', ha, hM'⟩ := hM.app (by omega) i
      have hv2 := hM.vw []
      rw [List.append_nil] at hv2
      have e13 := run13 (H := h) (L := L) (xs := xs) (fun G' => by rw [hG, List.append_assoc]; exact hL _) hRow hb sx (sv _ (List.getElem_mem _))
      generalize rs[i] = vs at *
      obtain ⟨d, hdg⟩ : ∃ d, ds[i] = d := ⟨_, rfl⟩
      rw [hdg] at hRow e13
      generalize rowsI xs rs i = l at *
      have key : ∃ w' h', C X lp17_0 [(0, L), (1, A), (5, w), (6, .int .i64 i)] h = some (.norm, [(0, L), (1, A), (5, w'), (6, .int .i64 I)], h') ∧ MadeI h' H w' (rowsI xs rs I) := by
        rw [← hI] at hlf
        rw [hlf]
        clear ih hlf hA hd hll
        have z1 : ∀ h, vw h 1 (.list 1 [iD i] true) = some [iD i] := fun _ => rfl
        have z2 : ∀ h, srcOf h 1 (.list 1 [iD i] true) = some [iD i] := fun _ => rfl
        have z3 : Wc 1 (iD i) := by simp [Wc, DV.cells, DV.one]
        have z4 : Nr (iD i) := .int _ _
        have z5 : ∀ h, eltL [iD i] h = some ([iD i], h) := fun _ => rfl
        generalize holdsR xs vs = op at *
        rcases hRow with ⟨cc, rfl⟩ | ⟨rfl, rfl⟩
        · cases op
          · refine ⟨w, h, ?_, by simpa using hM⟩
            unfold lp17_0
            (repeat (first | rw [s_assoc] | rw [s_seq_reg (by simp [evOps, evOp_n, evOp_r, evOp_d, evOp_dr, kpo_refl, kpo_app, cnd_some, cnd_pair, cnd_cnd_t, cnd_cnd_f, cnd_same, cnd_dvb, cnd_and, cnd_or, ↓evx_pick, gd_bool, gd_boolf, gd_tup, cnd_t, cnd_f, evTo, isCall, evx, put, lk, Od.v, keepEnv, enterEnv, ldx_ref, rdc, binx, binI, binS, unx, eqk, DV.isU, DV.cells, hget, hget0, hset, hset0, stx_ref, splice, DV.one, fillp, mat, eqcs, eqs, c1, c1', w1, hv, hdl, hdg, ldx, e13]; exact ⟨rfl, rfl⟩)] | rw [s_cnd (by simp [lk, keepEnv, Od.v, c1, c1', w1, hv, hdl, hdg, ldx, e13]; exact rfl)] | rw [cnd_t] | rw [cnd_f] | rw [s_skip] | rw [s_ret] | rw [s_exit] | rw [C_ret] | rw [C_exit] | rw [C_skip] | rw [blk_ret] | rw [blk_norm] | rw [blk_exit] | rw [blk_exit' (by decide)] | rw [blkT_ret] | rw [blkT_norm] | rw [blkT_exit] | rw [blkT_exit' (by decide)] | rw [s_blk] | rw [s_reg (by simp [evOps, evOp_n, evOp_r, evOp_d, evOp_dr, kpo_refl, kpo_app, cnd_some, cnd_pair, cnd_cnd_t, cnd_cnd_f, cnd_same, cnd_dvb, cnd_and, cnd_or, ↓evx_pick, gd_bool, gd_boolf, gd_tup, cnd_t, cnd_f, evTo, isCall, evx, put, lk, Od.v, keepEnv, enterEnv, ldx_ref, rdc, binx, binI, binS, unx, eqk, DV.isU, DV.cells, hget, hget0, hset, hset0, stx_ref, splice, DV.one, fillp, mat, eqcs, eqs, c1, c1', w1, hv, hdl, hdg, ldx, e13]; exact ⟨rfl, rfl⟩)] | rw [t_cnd (by simp [lk, keepEnv, Od.v, c1, c1', w1, hv, hdl, hdg, ldx, e13]; exact rfl)] | rw [t_blk]))
            simp [keepEnv, lk]
          · refine ⟨w', h', ?_, by simpa using hM'⟩
            unfold lp17_0
            (repeat (first | rw [s_assoc] | rw [s_seq_reg (by simp [evOps, evOp_n, evOp_r, evOp_d, evOp_dr, kpo_refl, kpo_app, cnd_some, cnd_pair, cnd_cnd_t, cnd_cnd_f, cnd_same, cnd_dvb, cnd_and, cnd_or, ↓evx_pick, gd_bool, gd_boolf, gd_tup, cnd_t, cnd_f, evTo, isCall, evx, put, lk, Od.v, keepEnv, enterEnv, ldx_ref, rdc, binx, binI, binS, unx, eqk, DV.isU, DV.cells, hget, hget0, hset, hset0, stx_ref, splice, DV.one, fillp, mat, eqcs, eqs, c1, c1', w1, hv, hv2, hdl, hdg, ldx, e13, ha, z1, z2, z3, z4, z5]; exact ⟨rfl, rfl⟩)] | rw [s_cnd (by simp [lk, keepEnv, Od.v, c1, c1', w1, hv, hv2, hdl, hdg, ldx, e13, ha, z1, z2, z3, z4, z5]; exact rfl)] | rw [cnd_t] | rw [cnd_f] | rw [s_skip] | rw [s_ret] | rw [s_exit] | rw [C_ret] | rw [C_exit] | rw [C_skip] | rw [blk_ret] | rw [blk_norm] | rw [blk_exit] | rw [blk_exit' (by decide)] | rw [blkT_ret] | rw [blkT_norm] | rw [blkT_exit] | rw [blkT_exit' (by decide)] | rw [s_blk] | rw [s_reg (by simp [evOps, evOp_n, evOp_r, evOp_d, evOp_dr, kpo_refl, kpo_app, cnd_some, cnd_pair, cnd_cnd_t, cnd_cnd_f, cnd_same, cnd_dvb, cnd_and, cnd_or, ↓evx_pick, gd_bool, gd_boolf, gd_tup, cnd_t, cnd_f, evTo, isCall, evx, put, lk, Od.v, keepEnv, enterEnv, ldx_ref, rdc, binx, binI, binS, unx, eqk, DV.isU, DV.cells, hget, hget0, hset, hset0, stx_ref, splice, DV.one, fillp, mat, eqcs, eqs, c1, c1', w1, hv, hv2, hdl, hdg, ldx, e13, ha, z1, z2, z3, z4, z5]; exact ⟨rfl, rfl⟩)] | rw [t_cnd (by simp [lk, keepEnv, Od.v, c1, c1', w1, hv, hv2, hdl, hdg, ldx, e13, ha, z1, z2, z3, z4, z5]; exact rfl)] | rw [t_blk]))
            simp [keepEnv, lk]
        · cases op
          · refine ⟨w, h, ?_, by simpa using hM⟩
            unfold lp17_0
            (repeat (first | rw [s_assoc] | rw [s_seq_reg (by simp [evOps, evOp_n, evOp_r, evOp_d, evOp_dr, kpo_refl, kpo_app, cnd_some, cnd_pair, cnd_cnd_t, cnd_cnd_f, cnd_same, cnd_dvb, cnd_and, cnd_or, ↓evx_pick, gd_bool, gd_boolf, gd_tup, cnd_t, cnd_f, evTo, isCall, evx, put, lk, Od.v, keepEnv, enterEnv, ldx_ref, rdc, binx, binI, binS, unx, eqk, DV.isU, DV.cells, hget, hget0, hset, hset0, stx_ref, splice, DV.one, fillp, mat, eqcs, eqs, c1, c1', w1, hv, hdl, hdg, ldx, e13]; exact ⟨rfl, rfl⟩)] | rw [s_cnd (by simp [lk, keepEnv, Od.v, c1, c1', w1, hv, hdl, hdg, ldx, e13]; exact rfl)] | rw [cnd_t] | rw [cnd_f] | rw [s_skip] | rw [s_ret] | rw [s_exit] | rw [C_ret] | rw [C_exit] | rw [C_skip] | rw [blk_ret] | rw [blk_norm] | rw [blk_exit] | rw [blk_exit' (by decide)] | rw [blkT_ret] | rw [blkT_norm] | rw [blkT_exit] | rw [blkT_exit' (by decide)] | rw [s_blk] | rw [s_reg (by simp [evOps, evOp_n, evOp_r, evOp_d, evOp_dr, kpo_refl, kpo_app, cnd_some, cnd_pair, cnd_cnd_t, cnd_cnd_f, cnd_same, cnd_dvb, cnd_and, cnd_or, ↓evx_pick, gd_bool, gd_boolf, gd_tup, cnd_t, cnd_f, evTo, isCall, evx, put, lk, Od.v, keepEnv, enterEnv, ldx_ref, rdc, binx, binI, binS, unx, eqk, DV.isU, DV.cells, hget, hget0, hset, hset0, stx_ref, splice, DV.one, fillp, mat, eqcs, eqs, c1, c1', w1, hv, hdl, hdg, ldx, e13]; exact ⟨rfl, rfl⟩)] | rw [t_cnd (by simp [lk, keepEnv, Od.v, c1, c1', w1, hv, hdl, hdg, ldx, e13]; exact rfl)] | rw [t_blk]))
            simp [keepEnv, lk]
          · refine ⟨w', h', ?_, by simpa using hM'⟩
            unfold lp17_0
            (repeat (first | rw [s_assoc] | rw [s_seq_reg (by simp [evOps, evOp_n, evOp_r, evOp_d, evOp_dr, kpo_refl, kpo_app, cnd_some, cnd_pair, cnd_cnd_t, cnd_cnd_f, cnd_same, cnd_dvb, cnd_and, cnd_or, ↓evx_pick, gd_bool, gd_boolf, gd_tup, cnd_t, cnd_f, evTo, isCall, evx, put, lk, Od.v, keepEnv, enterEnv, ldx_ref, rdc, binx, binI, binS, unx, eqk, DV.isU, DV.cells, hget, hget0, hset, hset0, stx_ref, splice, DV.one, fillp, mat, eqcs, eqs, c1, c1', w1, hv, hv2, hdl, hdg, ldx, e13, ha, z1, z2, z3, z4, z5]; exact ⟨rfl, rfl⟩)] | rw [s_cnd (by simp [lk, keepEnv, Od.v, c1, c1', w1, hv, hv2, hdl, hdg, ldx, e13, ha, z1, z2, z3, z4, z5]; exact rfl)] | rw [cnd_t] | rw [cnd_f] | rw [s_skip] | rw [s_ret] | rw [s_exit] | rw [C_ret] | rw [C_exit] | rw [C_skip] | rw [blk_ret] | rw [blk_norm] | rw [blk_exit] | rw [blk_exit' (by decide)] | rw [blkT_ret] | rw [blkT_norm] | rw [blkT_exit] | rw [blkT_exit' (by decide)] | rw [s_blk] | rw [s_reg (by simp [evOps, evOp_n, evOp_r, evOp_d, evOp_dr, kpo_refl, kpo_app, cnd_some, cnd_pair, cnd_cnd_t, cnd_cnd_f, cnd_same, cnd_dvb, cnd_and, cnd_or, ↓evx_pick, gd_bool, gd_boolf, gd_tup, cnd_t, cnd_f, evTo, isCall, evx, put, lk, Od.v, keepEnv, enterEnv, ldx_ref, rdc, binx, binI, binS, unx, eqk, DV.isU, DV.cells, hget, hget0, hset, hset0, stx_ref, splice, DV.one, fillp, mat, eqcs, eqs, c1, c1', w1, hv, hv2, hdl, hdg, ldx, e13, ha, z1, z2, z3, z4, z5]; exact ⟨rfl, rfl⟩)] | rw [t_cnd (by simp [lk, keepEnv, Od.v, c1, c1', w1, hv, hv2, hdl, hdg, ldx, e13, ha, z1, z2, z3, z4, z5]; exact rfl)] | rw [t_blk]))
            simp [keepEnv, lk]
      obtain ⟨w2, h2, hc, hM2⟩ := key
      rw [t_loop, hc, lp_norm]
      exact ih I w2 h2 (by omega) (by omega) hM2
    · exact ih i w h (by omega) hi hM
/-- A list of numbers that is handed back. -/
def LD (d : DV) (ws : List Nat) : Prop := (d = .nils ∧ ws = []) ∨ d = .fresh 3 1 (ws.map iD)
theorem fin_madeI {H h : Heap} {w : DV} {ws : List Nat} (hm : MadeI h H w ws) : ∃ d, fin H h [w] = (d, H) ∧ LD d ws := by
  rcases hm with ⟨rfl, rfl, rfl⟩ | ⟨g, rfl, rfl⟩
  · exact ⟨.nils, by simp [fin, fz1, fz0], .inl ⟨rfl, rfl⟩⟩
  · refine ⟨_, ?_, .inr rfl⟩
    have q1 : ∀ y ∈ ws.map iD, Nr y := by intro y hy; obtain ⟨z, _, rfl⟩ := List.mem_map.1 hy; exact .int _ _
    simp only [fin]
    rw [if_pos List.take_left]
    simp only [fz1, fz0]
    rw [if_neg (by omega), hget0]
    simp only [List.getElem?_cons_zero]
    rw [if_pos ⟨rfl, by simp, q1⟩, if_pos (by simp)]
theorem run17 {H : Heap} {L A : DV} {xs : List N} {ds : List DV} {rs : List (List V)} (hL : ∀ G, vw (H ++ G) 8 L = some (xs.map N.d)) (hA : ∀ G, vw (H ++ G) 1 A = some ds) (hd : RowsL ds rs) (hb : xs.length ≤ 1000000) (hll : rs.length ≤ 1000000) (sx : ∀ x ∈ xs, Sm x.val) (sv : ∀ vs ∈ rs, ∀ v ∈ vs, Sm v) :
    ∃ d, E X 17 [L, A] H = some (d, H) ∧ LD d (rowsI xs rs rs.length) := by
  obtain ⟨y, ex, w', h', hc, hM⟩ := loop17 hL hA hd hb hll sx sv rs.length 0 .nils H (by omega) (by omega) (.inl ⟨rfl, rfl, rfl⟩)
  obtain ⟨d, hf, hD⟩ := fin_madeI hM
  refine ⟨d, ?_, hD⟩
  rw [show ((0 : Nat) : Int) = 0 from rfl] at hc
  unfold lp17_0 at hc
  have hw : w' = .nils ∨ ∃ o g n, w' = .row o g 0 n false := by
    rcases hM with ⟨rfl, _, _⟩ | ⟨g, rfl, _⟩
    · exact .inl rfl
    · exact .inr ⟨_, _, _, rfl⟩
  clear hM hD hL hA hd
  rw [E_go (X := X) _ b17 _ rfl rfl]; unfold b17
  (repeat (first | rw [s_assoc] | rw [s_seq_reg (by simp [evOps, evOp_n, evOp_r, evOp_d, evOp_dr, kpo_refl, kpo_app, cnd_some, cnd_pair, cnd_cnd_t, cnd_cnd_f, cnd_same, cnd_dvb, cnd_and, cnd_or, ↓evx_pick, gd_bool, gd_boolf, gd_tup, cnd_t, cnd_f, evTo, isCall, evx, put, lk, Od.v, keepEnv, enterEnv, ldx_ref, rdc, binx, binI, binS, unx, eqk, DV.isU, DV.cells, hget, hget0, hset, hset0, stx_ref, splice, DV.one, fillp, mat, eqcs, eqs]; exact ⟨rfl, rfl⟩)] | rw [s_cnd (by simp [lk, keepEnv, Od.v]; exact rfl)] | rw [cnd_t] | rw [cnd_f] | rw [s_skip] | rw [s_ret] | rw [s_exit] | rw [C_ret] | rw [C_exit] | rw [C_skip] | rw [blk_ret] | rw [blk_norm] | rw [blk_exit] | rw [blk_exit' (by decide)] | rw [blkT_ret] | rw [blkT_norm] | rw [blkT_exit] | rw [blkT_exit' (by decide)] | rw [s_blk] | rw [s_reg (by simp [evOps, evOp_n, evOp_r, evOp_d, evOp_dr, kpo_refl, kpo_app, cnd_some, cnd_pair, cnd_cnd_t, cnd_cnd_f, cnd_same, cnd_dvb, cnd_and, cnd_or, ↓evx_pick, gd_bool, gd_boolf, gd_tup, cnd_t, cnd_f, evTo, isCall, evx, put, lk, Od.v, keepEnv, enterEnv, ldx_ref, rdc, binx, binI, binS, unx, eqk, DV.isU, DV.cells, hget, hget0, hset, hset0, stx_ref, splice, DV.one, fillp, mat, eqcs, eqs]; exact ⟨rfl, rfl⟩)] | rw [t_cnd (by simp [lk, keepEnv, Od.v]; exact rfl)] | rw [t_blk]))
  (try simp only [keepEnv, List.map_cons, List.map_nil, lk, reduceIte, Nat.reduceEqDiff, Nat.zero_ne_one, Nat.one_ne_zero])
  rw [hc]
  clear hc
  rcases hw with rfl | ⟨o, g, n, rfl⟩
  · (repeat (first | rw [s_assoc] | rw [s_seq_reg (by simp [evOps, evOp_n, evOp_r, evOp_d, evOp_dr, kpo_refl, kpo_app, cnd_some, cnd_pair, cnd_cnd_t, cnd_cnd_f, cnd_same, cnd_dvb, cnd_and, cnd_or, ↓evx_pick, gd_bool, gd_boolf, gd_tup, cnd_t, cnd_f, evTo, isCall, evx, put, lk, Od.v, keepEnv, enterEnv, ldx_ref, rdc, binx, binI, binS, unx, eqk, DV.isU, DV.cells, hget, hget0, hset, hset0, stx_ref, splice, DV.one, fillp, mat, eqcs, eqs]; exact ⟨rfl, rfl⟩)] | rw [s_cnd (by simp [lk, keepEnv, Od.v]; exact rfl)] | rw [cnd_t] | rw [cnd_f] | rw [s_skip] | rw [s_ret] | rw [s_exit] | rw [C_ret] | rw [C_exit] | rw [C_skip] | rw [blk_ret] | rw [blk_norm] | rw [blk_exit] | rw [blk_exit' (by decide)] | rw [blkT_ret] | rw [blkT_norm] | rw [blkT_exit] | rw [blkT_exit' (by decide)] | rw [s_blk] | rw [s_reg (by simp [evOps, evOp_n, evOp_r, evOp_d, evOp_dr, kpo_refl, kpo_app, cnd_some, cnd_pair, cnd_cnd_t, cnd_cnd_f, cnd_same, cnd_dvb, cnd_and, cnd_or, ↓evx_pick, gd_bool, gd_boolf, gd_tup, cnd_t, cnd_f, evTo, isCall, evx, put, lk, Od.v, keepEnv, enterEnv, ldx_ref, rdc, binx, binI, binS, unx, eqk, DV.isU, DV.cells, hget, hget0, hset, hset0, stx_ref, splice, DV.one, fillp, mat, eqcs, eqs]; exact ⟨rfl, rfl⟩)] | rw [t_cnd (by simp [lk, keepEnv, Od.v]; exact rfl)] | rw [t_blk]))
    simp [ends_norm, ends_ret, resL, keepEnv, lk]
    exact hf
  · (repeat (first | rw [s_assoc] | rw [s_seq_reg (by simp [evOps, evOp_n, evOp_r, evOp_d, evOp_dr, kpo_refl, kpo_app, cnd_some, cnd_pair, cnd_cnd_t, cnd_cnd_f, cnd_same, cnd_dvb, cnd_and, cnd_or, ↓evx_pick, gd_bool, gd_boolf, gd_tup, cnd_t, cnd_f, evTo, isCall, evx, put, lk, Od.v, keepEnv, enterEnv, ldx_ref, rdc, binx, binI, binS, unx, eqk, DV.isU, DV.cells, hget, hget0, hset, hset0, stx_ref, splice, DV.one, fillp, mat, eqcs, eqs]; exact ⟨rfl, rfl⟩)] | rw [s_cnd (by simp [lk, keepEnv, Od.v]; exact rfl)] | rw [cnd_t] | rw [cnd_f] | rw [s_skip] | rw [s_ret] | rw [s_exit] | rw [C_ret] | rw [C_exit] | rw [C_skip] | rw [blk_ret] | rw [blk_norm] | rw [blk_exit] | rw [blk_exit' (by decide)] | rw [blkT_ret] | rw [blkT_norm] | rw [blkT_exit] | rw [blkT_exit' (by decide)] | rw [s_blk] | rw [s_reg (by simp [evOps, evOp_n, evOp_r, evOp_d, evOp_dr, kpo_refl, kpo_app, cnd_some, cnd_pair, cnd_cnd_t, cnd_cnd_f, cnd_same, cnd_dvb, cnd_and, cnd_or, ↓evx_pick, gd_bool, gd_boolf, gd_tup, cnd_t, cnd_f, evTo, isCall, evx, put, lk, Od.v, keepEnv, enterEnv, ldx_ref, rdc, binx, binI, binS, unx, eqk, DV.isU, DV.cells, hget, hget0, hset, hset0, stx_ref, splice, DV.one, fillp, mat, eqcs, eqs]; exact ⟨rfl, rfl⟩)] | rw [t_cnd (by simp [lk, keepEnv, Od.v]; exact rfl)] | rw [t_blk]))
    simp [ends_norm, ends_ret, resL, keepEnv, lk]
    exact hf
end Go.Proofs.YtfgnefnpfgdliaaDoor
