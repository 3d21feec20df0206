/- Ideal runs: clones, slices that grow, search in a list. -/
import Derived.Test.YtmlfhjpajbmajaaPlainE
import Derived.Test.YtmlfhjpajbmajaaPlainF
import Derived.Test.YtmlfhjpajbmajaaSortA
namespace Go.Proofs.Ytmlfhjpajbmajaa
set_option linter.unusedVariables false
set_option linter.unusedSimpArgs false
set_option maxRecDepth 10000
theorem all_Nr (xs : List V) : ∀ x ∈ xs.map V.d, Nr x := by
  intro x hx
  obtain ⟨v, _, rfl⟩ := List.mem_map.1 hx
  exact Nr_v v
/-- A slice that grows in a row of its own, from place n0 on. -/
def GrowAt (n0 t sz : Nat) (h : Heap) (L : DV) (xs : List DV) : Prop :=
  (xs = [] ∧ L = .nils) ∨ ∃ r g, L = .row r g 0 xs.length false ∧ n0 ≤ r ∧ h[r]? = some (.row t sz g xs)
theorem GrowAt.vw {n0 t sz : Nat} {h : Heap} {L : DV} {xs : List DV} (hr : GrowAt n0 t sz h L xs) : vw h sz L = some xs := by
  rcases hr with ⟨rfl, rfl⟩ | ⟨r, g, rfl, _, h2⟩
  · rfl
  · simp [Go.Proofs.Ytmlfhjpajbmajaa.vw, h2]
theorem GrowAt.ext {n0 t sz : Nat} {h : Heap} {L : DV} {xs : List DV} (hr : GrowAt n0 t sz h L xs) (l : Heap) : GrowAt n0 t sz (h ++ l) L xs := by
  rcases hr with h1 | ⟨r, g, h1, h2, h3⟩
  · exact .inl h1
  · exact .inr ⟨r, g, h1, h2, hle h3 l⟩
theorem GrowAt.app {n0 t sz by' : Nat} {h : Heap} {L : DV} {xs ys : List DV} (hr : GrowAt n0 t sz h L xs) (hn : n0 ≤ h.length) (hy : ys ≠ []) (hb : (xs.length + ys.length) * by' ≤ 140737488355328) :
    ∃ L' h', appx h t sz by' L xs ys = some (L', h') ∧ GrowAt n0 t sz h' L' (xs ++ ys) ∧ h'.take n0 = h.take n0 ∧ h.length ≤ h'.length := by
  rcases hr with ⟨rfl, rfl⟩ | ⟨r, g, rfl, h2, h3⟩
  · refine ⟨.row h.length 0 0 ys.length false, h ++ [.row t sz 0 ys], ?_, .inr ⟨h.length, 0, by simp, hn, by simp⟩, ?_, by simp⟩
    · rw [appx, if_neg hy, if_pos hb]
    · rw [List.take_append_of_le_length hn]
  · have hl := (List.getElem?_eq_some_iff.1 h3).1
    refine ⟨.row r (g + 1) 0 (xs.length + ys.length) false, h.set r (.row t sz (g + 1) (xs ++ ys)), ?_, .inr ⟨r, g + 1, by simp, h2, List.getElem?_set_self hl⟩, ?_, by simp⟩
    · rw [appx, if_neg hy, if_pos hb]
      simp [h3]
    · rw [List.take_set_of_le h2]
theorem run30 {h : Heap} {r g n : Nat} {xs : List V} (hx : xs ≠ []) (hv : vw h 4 (.row r g 0 n false) = some (xs.map V.d)) (hb : xs.length ≤ 1000000) : E X 30 [.row r g 0 n false] h = some (.fresh 24 4 (xs.map V.d), h) := by
  have q1 : eltL ([] : List DV) h = some ([], h) := rfl
  have q2 : vw h 4 (.list 4 [] true) = some [] := rfl
  have q3 := all_Nr xs
  have q4 : appx h 24 4 40 (.list 4 [] true) [] (xs.map V.d) = some (.row h.length 0 0 xs.length false, h ++ [.row 24 4 0 (xs.map V.d)]) := by
    rw [appx, if_neg (by simpa using hx), if_pos (by simp; omega)]; simp
  rw [E_go (X := X) _ b30 _ rfl rfl]; unfold b30; (repeat (first | rw [s_assoc] | rw [s_seq_reg (by simp [evOps, evOp_n, evOp_r, evOp_d, evOp_dr, kpo_refl, kpo_app, cnd_some, cnd_pair, cnd_cnd_t, cnd_cnd_f, cnd_same, cnd_dvb, cnd_and, cnd_or, ↓evx_pick, gd_bool, gd_boolf, gd_tup, cnd_t, cnd_f, evTo, isCall, evx, put, lk, Od.v, keepEnv, enterEnv, ldx_ref, rdc, binx, binI, binS, unx, eqk, DV.isU, DV.cells, hget, hget0, hset, hset0, stx_ref, splice, DV.one, fillp, mat, eqcs, eqs, q1, q2, hv, q4, srcOf]; exact ⟨rfl, rfl⟩)] | rw [s_cnd (by simp [lk, keepEnv, Od.v, q1, q2, hv, q4, srcOf]; exact rfl)] | rw [cnd_t] | rw [cnd_f] | rw [s_skip] | rw [s_ret] | rw [s_exit] | rw [C_ret] | rw [C_exit] | rw [C_skip] | rw [blk_ret] | rw [blk_norm] | rw [blk_exit] | rw [blk_exit' (by decide)] | rw [blkT_ret] | rw [blkT_norm] | rw [blkT_exit] | rw [blkT_exit' (by decide)] | rw [s_blk] | rw [s_reg (by simp [evOps, evOp_n, evOp_r, evOp_d, evOp_dr, kpo_refl, kpo_app, cnd_some, cnd_pair, cnd_cnd_t, cnd_cnd_f, cnd_same, cnd_dvb, cnd_and, cnd_or, ↓evx_pick, gd_bool, gd_boolf, gd_tup, cnd_t, cnd_f, evTo, isCall, evx, put, lk, Od.v, keepEnv, enterEnv, ldx_ref, rdc, binx, binI, binS, unx, eqk, DV.isU, DV.cells, hget, hget0, hset, hset0, stx_ref, splice, DV.one, fillp, mat, eqcs, eqs, q1, q2, hv, q4, srcOf]; exact ⟨rfl, rfl⟩)] | rw [t_cnd (by simp [lk, keepEnv, Od.v, q1, q2, hv, q4, srcOf]; exact rfl)] | rw [t_blk])); simp [ends_ret, ends_norm, resL, evOps, evOp_n, evOp_r, evOp_d, evOp_dr, kpo_refl, kpo_app, cnd_some, cnd_pair, cnd_cnd_t, cnd_cnd_f, cnd_same, cnd_dvb, cnd_and, cnd_or, ↓evx_pick, gd_bool, gd_boolf, gd_tup, cnd_t, cnd_f, evTo, isCall, evx, put, lk, Od.v, keepEnv, enterEnv, ldx_ref, rdc, binx, binI, binS, unx, eqk, DV.isU, DV.cells, hget, hget0, hset, hset0, stx_ref, splice, DV.one, fillp, mat, eqcs, eqs, fin, fz0, fz1, fzT, fzL, nlt, q1, q2, hv, q4, srcOf]
  rw [if_pos ⟨rfl, by simp, q3⟩]
/-- Where a value stands in a list. -/
def place (xs : List V) (v : V) : Nat := bs (fun i => (xs[i]?.map fun x => decide (ord x v ≥ 0)).getD false) 0 xs.length
theorem bs_le (p : Nat → Bool) (lo hi : Nat) (h : lo ≤ hi) : lo ≤ bs p lo hi ∧ bs p lo hi ≤ hi := by
  rw [bs]
  split
  · split
    · have := bs_le p lo ((lo + hi) / 2) (by omega); omega
    · have := bs_le p ((lo + hi) / 2 + 1) hi (by omega); omega
  · omega
termination_by hi - lo
theorem place_le (xs : List V) (v : V) : place xs v ≤ xs.length := (bs_le _ _ _ (Nat.zero_le _)).2
def found (xs : List V) (v : V) : Bool := (xs[place xs v]?.map fun x => x.eqb v).getD false
theorem run33 {h : Heap} {L : DV} {xs : List V} (v : V) (hL : ∀ l, vw (h ++ l) 4 L = some (xs.map V.d)) (hb : xs.length ≤ 1000000) : E X 33 [L, v.d] h = some (.tup [.int .i64 (place xs v : Nat), .bool (found xs v)], h) := by
  have e1 : E X 41 [L, .func 42 [] [.ref h.length 0]] (h ++ [HO.box 24 [.int .i64 v.k, .int .i64 v.n, .str v.s, .bool v.t]]) = some (.int .i64 (place xs v : Nat), h ++ [HO.box 24 [.int .i64 v.k, .int .i64 v.n, .str v.s, .bool v.t]]) :=
    run41 (p := fun x => decide (ord x v ≥ 0)) (hL _) hb (fun x _ => run42 x v (t := 24) (by simp [DV.cells]))
  have hp := place_le xs v
  by_cases hlt : place xs v < xs.length
  · have w : found xs v = xs[place xs v].eqb v := by simp [found, List.getElem?_eq_getElem hlt]
    rw [E_go (X := X) _ b33 _ rfl rfl]; unfold b33; (repeat (first | rw [s_assoc] | rw [s_seq_reg (by simp [evOps, evOp_n, evOp_r, evOp_d, evOp_dr, kpo_refl, kpo_app, cnd_some, cnd_pair, cnd_cnd_t, cnd_cnd_f, cnd_same, cnd_dvb, cnd_and, cnd_or, ↓evx_pick, gd_bool, gd_boolf, gd_tup, cnd_t, cnd_f, evTo, isCall, evx, put, lk, Od.v, keepEnv, enterEnv, ldx_ref, rdc, binx, binI, binS, unx, eqk, DV.isU, DV.cells, hget, hget0, hset, hset0, stx_ref, splice, DV.one, fillp, mat, eqcs, eqs, e1, hL, hlt, w, ldx, V.eqb]; exact ⟨rfl, rfl⟩)] | rw [s_cnd (by simp [lk, keepEnv, Od.v, e1, hL, hlt, w, ldx, V.eqb]; exact rfl)] | rw [cnd_t] | rw [cnd_f] | rw [s_skip] | rw [s_ret] | rw [s_exit] | rw [C_ret] | rw [C_exit] | rw [C_skip] | rw [blk_ret] | rw [blk_norm] | rw [blk_exit] | rw [blk_exit' (by decide)] | rw [blkT_ret] | rw [blkT_norm] | rw [blkT_exit] | rw [blkT_exit' (by decide)] | rw [s_blk] | rw [s_reg (by simp [evOps, evOp_n, evOp_r, evOp_d, evOp_dr, kpo_refl, kpo_app, cnd_some, cnd_pair, cnd_cnd_t, cnd_cnd_f, cnd_same, cnd_dvb, cnd_and, cnd_or, ↓evx_pick, gd_bool, gd_boolf, gd_tup, cnd_t, cnd_f, evTo, isCall, evx, put, lk, Od.v, keepEnv, enterEnv, ldx_ref, rdc, binx, binI, binS, unx, eqk, DV.isU, DV.cells, hget, hget0, hset, hset0, stx_ref, splice, DV.one, fillp, mat, eqcs, eqs, e1, hL, hlt, w, ldx, V.eqb]; exact ⟨rfl, rfl⟩)] | rw [t_cnd (by simp [lk, keepEnv, Od.v, e1, hL, hlt, w, ldx, V.eqb]; exact rfl)] | rw [t_blk])); simp [ends_ret, ends_norm, resL, evOps, evOp_n, evOp_r, evOp_d, evOp_dr, kpo_refl, kpo_app, cnd_some, cnd_pair, cnd_cnd_t, cnd_cnd_f, cnd_same, cnd_dvb, cnd_and, cnd_or, ↓evx_pick, gd_bool, gd_boolf, gd_tup, cnd_t, cnd_f, evTo, isCall, evx, put, lk, Od.v, keepEnv, enterEnv, ldx_ref, rdc, binx, binI, binS, unx, eqk, DV.isU, DV.cells, hget, hget0, hset, hset0, stx_ref, splice, DV.one, fillp, mat, eqcs, eqs, fin, fz0, fz1, fzT, fzL, nlt, e1, hL, hlt, w, ldx, V.eqb]
  · have w : found xs v = false := by simp [found, List.getElem?_eq_none (Nat.le_of_not_lt hlt)]
    rw [E_go (X := X) _ b33 _ rfl rfl]; unfold b33; (repeat (first | rw [s_assoc] | rw [s_seq_reg (by simp [evOps, evOp_n, evOp_r, evOp_d, evOp_dr, kpo_refl, kpo_app, cnd_some, cnd_pair, cnd_cnd_t, cnd_cnd_f, cnd_same, cnd_dvb, cnd_and, cnd_or, ↓evx_pick, gd_bool, gd_boolf, gd_tup, cnd_t, cnd_f, evTo, isCall, evx, put, lk, Od.v, keepEnv, enterEnv, ldx_ref, rdc, binx, binI, binS, unx, eqk, DV.isU, DV.cells, hget, hget0, hset, hset0, stx_ref, splice, DV.one, fillp, mat, eqcs, eqs, e1, hL, hlt, w]; exact ⟨rfl, rfl⟩)] | rw [s_cnd (by simp [lk, keepEnv, Od.v, e1, hL, hlt, w]; exact rfl)] | rw [cnd_t] | rw [cnd_f] | rw [s_skip] | rw [s_ret] | rw [s_exit] | rw [C_ret] | rw [C_exit] | rw [C_skip] | rw [blk_ret] | rw [blk_norm] | rw [blk_exit] | rw [blk_exit' (by decide)] | rw [blkT_ret] | rw [blkT_norm] | rw [blkT_exit] | rw [blkT_exit' (by decide)] | rw [s_blk] | rw [s_reg (by simp [evOps, evOp_n, evOp_r, evOp_d, evOp_dr, kpo_refl, kpo_app, cnd_some, cnd_pair, cnd_cnd_t, cnd_cnd_f, cnd_same, cnd_dvb, cnd_and, cnd_or, ↓evx_pick, gd_bool, gd_boolf, gd_tup, cnd_t, cnd_f, evTo, isCall, evx, put, lk, Od.v, keepEnv, enterEnv, ldx_ref, rdc, binx, binI, binS, unx, eqk, DV.isU, DV.cells, hget, hget0, hset, hset0, stx_ref, splice, DV.one, fillp, mat, eqcs, eqs, e1, hL, hlt, w]; exact ⟨rfl, rfl⟩)] | rw [t_cnd (by simp [lk, keepEnv, Od.v, e1, hL, hlt, w]; exact rfl)] | rw [t_blk])); simp [ends_ret, ends_norm, resL, evOps, evOp_n, evOp_r, evOp_d, evOp_dr, kpo_refl, kpo_app, cnd_some, cnd_pair, cnd_cnd_t, cnd_cnd_f, cnd_same, cnd_dvb, cnd_and, cnd_or, ↓evx_pick, gd_bool, gd_boolf, gd_tup, cnd_t, cnd_f, evTo, isCall, evx, put, lk, Od.v, keepEnv, enterEnv, ldx_ref, rdc, binx, binI, binS, unx, eqk, DV.isU, DV.cells, hget, hget0, hset, hset0, stx_ref, splice, DV.one, fillp, mat, eqcs, eqs, fin, fz0, fz1, fzT, fzL, nlt, e1, hL, hlt, w]
end Go.Proofs.Ytmlfhjpajbmajaa
