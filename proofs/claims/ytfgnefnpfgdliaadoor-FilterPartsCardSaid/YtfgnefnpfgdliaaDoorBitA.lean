/- Ideal runs: sets of numbers, word by word. -/
import Derived.Test.YtfgnefnpfgdliaaDoorCode
import Derived.Test.YtfgnefnpfgdliaaDoorStepB
namespace Go.Proofs.YtfgnefnpfgdliaaDoor
set_option linter.unusedVariables false
set_option linter.unusedSimpArgs false
set_option maxRecDepth 10000
abbrev uD (n : Nat) : DV := .int .u64 (n : Int)
/-- A list of words that is only read. -/
def WL (W : DV) (ws : List Nat) : Prop := W = .list 1 (ws.map uD) false ∨ (W = .nils ∧ ws = [])
theorem WL.vw {W : DV} {ws : List Nat} (h : WL W ws) (g : Heap) : vw g 1 W = some (ws.map uD) := by
  rcases h with rfl | ⟨rfl, rfl⟩ <;> rfl
theorem hle {H : Heap} {o : Nat} {x : HO} (h : H[o]? = some x) (l : Heap) : (H ++ l)[o]? = some x := by
  rw [List.getElem?_append_left (List.getElem?_eq_some_iff.1 h).1]; exact h
/-- The word at a place; nothing behind the last one. -/
def at_ (ws : List Nat) (k : Nat) : Nat := ws.getD k 0
theorem run36 {W : DV} {ws : List Nat} (hW : WL W ws) (k : Nat) (h : Heap) : E X 36 [.agg [W], .int .i64 k] h = some (uD (at_ ws k), h) := by
  have hv := hW.vw
  by_cases hk : k < ws.length
  · have e : at_ ws k = ws[k] := by simp [at_, List.getD, List.getElem?_eq_getElem hk]
    rw [E_go (X := X) _ b36 _ rfl rfl]; unfold b36; (repeat (first | rw [s_assoc] | rw [s_seq_reg (by simp [evOps, evOp_n, evOp_r, evOp_d, evOp_dr, kpo_refl, kpo_app, cnd_some, cnd_pair, cnd_cnd_t, cnd_cnd_f, cnd_same, cnd_dvb, cnd_and, cnd_or, ↓evx_pick, gd_bool, gd_boolf, gd_tup, cnd_t, cnd_f, evTo, isCall, evx, put, lk, Od.v, keepEnv, enterEnv, ldx_ref, rdc, binx, binI, binS, unx, eqk, DV.isU, DV.cells, hget, hget0, hset, hset0, stx_ref, splice, DV.one, fillp, mat, eqcs, eqs, hv, hk, e, ldx]; exact ⟨rfl, rfl⟩)] | rw [s_cnd (by simp [lk, keepEnv, Od.v, hv, hk, e, ldx]; exact rfl)] | rw [cnd_t] | rw [cnd_f] | rw [s_skip] | rw [s_ret] | rw [s_exit] | rw [C_ret] | rw [C_exit] | rw [C_skip] | rw [blk_ret] | rw [blk_norm] | rw [blk_exit] | rw [blk_exit' (by decide)] | rw [blkT_ret] | rw [blkT_norm] | rw [blkT_exit] | rw [blkT_exit' (by decide)] | rw [s_blk] | rw [s_reg (by simp [evOps, evOp_n, evOp_r, evOp_d, evOp_dr, kpo_refl, kpo_app, cnd_some, cnd_pair, cnd_cnd_t, cnd_cnd_f, cnd_same, cnd_dvb, cnd_and, cnd_or, ↓evx_pick, gd_bool, gd_boolf, gd_tup, cnd_t, cnd_f, evTo, isCall, evx, put, lk, Od.v, keepEnv, enterEnv, ldx_ref, rdc, binx, binI, binS, unx, eqk, DV.isU, DV.cells, hget, hget0, hset, hset0, stx_ref, splice, DV.one, fillp, mat, eqcs, eqs, hv, hk, e, ldx]; exact ⟨rfl, rfl⟩)] | rw [t_cnd (by simp [lk, keepEnv, Od.v, hv, hk, e, ldx]; exact rfl)] | rw [t_blk])); simp [ends_ret, ends_norm, resL, evOps, evOp_n, evOp_r, evOp_d, evOp_dr, kpo_refl, kpo_app, cnd_some, cnd_pair, cnd_cnd_t, cnd_cnd_f, cnd_same, cnd_dvb, cnd_and, cnd_or, ↓evx_pick, gd_bool, gd_boolf, gd_tup, cnd_t, cnd_f, evTo, isCall, evx, put, lk, Od.v, keepEnv, enterEnv, ldx_ref, rdc, binx, binI, binS, unx, eqk, DV.isU, DV.cells, hget, hget0, hset, hset0, stx_ref, splice, DV.one, fillp, mat, eqcs, eqs, fin, fz0, fz1, fzT, fzL, nlt, hv, hk, e, ldx]
  · have e : at_ ws k = 0 := by simp [at_, List.getD, List.getElem?_eq_none (Nat.le_of_not_lt hk)]
    rw [E_go (X := X) _ b36 _ rfl rfl]; unfold b36; (repeat (first | rw [s_assoc] | rw [s_seq_reg (by simp [evOps, evOp_n, evOp_r, evOp_d, evOp_dr, kpo_refl, kpo_app, cnd_some, cnd_pair, cnd_cnd_t, cnd_cnd_f, cnd_same, cnd_dvb, cnd_and, cnd_or, ↓evx_pick, gd_bool, gd_boolf, gd_tup, cnd_t, cnd_f, evTo, isCall, evx, put, lk, Od.v, keepEnv, enterEnv, ldx_ref, rdc, binx, binI, binS, unx, eqk, DV.isU, DV.cells, hget, hget0, hset, hset0, stx_ref, splice, DV.one, fillp, mat, eqcs, eqs, hv, hk, e]; exact ⟨rfl, rfl⟩)] | rw [s_cnd (by simp [lk, keepEnv, Od.v, hv, hk, e]; exact rfl)] | rw [cnd_t] | rw [cnd_f] | rw [s_skip] | rw [s_ret] | rw [s_exit] | rw [C_ret] | rw [C_exit] | rw [C_skip] | rw [blk_ret] | rw [blk_norm] | rw [blk_exit] | rw [blk_exit' (by decide)] | rw [blkT_ret] | rw [blkT_norm] | rw [blkT_exit] | rw [blkT_exit' (by decide)] | rw [s_blk] | rw [s_reg (by simp [evOps, evOp_n, evOp_r, evOp_d, evOp_dr, kpo_refl, kpo_app, cnd_some, cnd_pair, cnd_cnd_t, cnd_cnd_f, cnd_same, cnd_dvb, cnd_and, cnd_or, ↓evx_pick, gd_bool, gd_boolf, gd_tup, cnd_t, cnd_f, evTo, isCall, evx, put, lk, Od.v, keepEnv, enterEnv, ldx_ref, rdc, binx, binI, binS, unx, eqk, DV.isU, DV.cells, hget, hget0, hset, hset0, stx_ref, splice, DV.one, fillp, mat, eqcs, eqs, hv, hk, e]; exact ⟨rfl, rfl⟩)] | rw [t_cnd (by simp [lk, keepEnv, Od.v, hv, hk, e]; exact rfl)] | rw [t_blk])); simp [ends_ret, ends_norm, resL, evOps, evOp_n, evOp_r, evOp_d, evOp_dr, kpo_refl, kpo_app, cnd_some, cnd_pair, cnd_cnd_t, cnd_cnd_f, cnd_same, cnd_dvb, cnd_and, cnd_or, ↓evx_pick, gd_bool, gd_boolf, gd_tup, cnd_t, cnd_f, evTo, isCall, evx, put, lk, Od.v, keepEnv, enterEnv, ldx_ref, rdc, binx, binI, binS, unx, eqk, DV.isU, DV.cells, hget, hget0, hset, hset0, stx_ref, splice, DV.one, fillp, mat, eqcs, eqs, fin, fz0, fz1, fzT, fzL, nlt, hv, hk, e]
theorem run42 (i : Int) (h : Heap) : E X 42 [.int .i64 i] h = some (.bool (decide (0 ≤ i) && decide (i < 65536)), h) := by
  by_cases a : 0 ≤ i
  · rw [E_go (X := X) _ b42 _ rfl rfl]; unfold b42; (repeat (first | rw [s_assoc] | rw [s_seq_reg (by simp [evOps, evOp_n, evOp_r, evOp_d, evOp_dr, kpo_refl, kpo_app, cnd_some, cnd_pair, cnd_cnd_t, cnd_cnd_f, cnd_same, cnd_dvb, cnd_and, cnd_or, ↓evx_pick, gd_bool, gd_boolf, gd_tup, cnd_t, cnd_f, evTo, isCall, evx, put, lk, Od.v, keepEnv, enterEnv, ldx_ref, rdc, binx, binI, binS, unx, eqk, DV.isU, DV.cells, hget, hget0, hset, hset0, stx_ref, splice, DV.one, fillp, mat, eqcs, eqs, a]; exact ⟨rfl, rfl⟩)] | rw [s_cnd (by simp [lk, keepEnv, Od.v, a]; exact rfl)] | rw [cnd_t] | rw [cnd_f] | rw [s_skip] | rw [s_ret] | rw [s_exit] | rw [C_ret] | rw [C_exit] | rw [C_skip] | rw [blk_ret] | rw [blk_norm] | rw [blk_exit] | rw [blk_exit' (by decide)] | rw [blkT_ret] | rw [blkT_norm] | rw [blkT_exit] | rw [blkT_exit' (by decide)] | rw [s_blk] | rw [s_reg (by simp [evOps, evOp_n, evOp_r, evOp_d, evOp_dr, kpo_refl, kpo_app, cnd_some, cnd_pair, cnd_cnd_t, cnd_cnd_f, cnd_same, cnd_dvb, cnd_and, cnd_or, ↓evx_pick, gd_bool, gd_boolf, gd_tup, cnd_t, cnd_f, evTo, isCall, evx, put, lk, Od.v, keepEnv, enterEnv, ldx_ref, rdc, binx, binI, binS, unx, eqk, DV.isU, DV.cells, hget, hget0, hset, hset0, stx_ref, splice, DV.one, fillp, mat, eqcs, eqs, a]; exact ⟨rfl, rfl⟩)] | rw [t_cnd (by simp [lk, keepEnv, Od.v, a]; exact rfl)] | rw [t_blk])); simp [ends_ret, ends_norm, resL, evOps, evOp_n, evOp_r, evOp_d, evOp_dr, kpo_refl, kpo_app, cnd_some, cnd_pair, cnd_cnd_t, cnd_cnd_f, cnd_same, cnd_dvb, cnd_and, cnd_or, ↓evx_pick, gd_bool, gd_boolf, gd_tup, cnd_t, cnd_f, evTo, isCall, evx, put, lk, Od.v, keepEnv, enterEnv, ldx_ref, rdc, binx, binI, binS, unx, eqk, DV.isU, DV.cells, hget, hget0, hset, hset0, stx_ref, splice, DV.one, fillp, mat, eqcs, eqs, fin, fz0, fz1, fzT, fzL, nlt, a]
  · rw [E_go (X := X) _ b42 _ rfl rfl]; unfold b42; (repeat (first | rw [s_assoc] | rw [s_seq_reg (by simp [evOps, evOp_n, evOp_r, evOp_d, evOp_dr, kpo_refl, kpo_app, cnd_some, cnd_pair, cnd_cnd_t, cnd_cnd_f, cnd_same, cnd_dvb, cnd_and, cnd_or, ↓evx_pick, gd_bool, gd_boolf, gd_tup, cnd_t, cnd_f, evTo, isCall, evx, put, lk, Od.v, keepEnv, enterEnv, ldx_ref, rdc, binx, binI, binS, unx, eqk, DV.isU, DV.cells, hget, hget0, hset, hset0, stx_ref, splice, DV.one, fillp, mat, eqcs, eqs, a]; exact ⟨rfl, rfl⟩)] | rw [s_cnd (by simp [lk, keepEnv, Od.v, a]; exact rfl)] | rw [cnd_t] | rw [cnd_f] | rw [s_skip] | rw [s_ret] | rw [s_exit] | rw [C_ret] | rw [C_exit] | rw [C_skip] | rw [blk_ret] | rw [blk_norm] | rw [blk_exit] | rw [blk_exit' (by decide)] | rw [blkT_ret] | rw [blkT_norm] | rw [blkT_exit] | rw [blkT_exit' (by decide)] | rw [s_blk] | rw [s_reg (by simp [evOps, evOp_n, evOp_r, evOp_d, evOp_dr, kpo_refl, kpo_app, cnd_some, cnd_pair, cnd_cnd_t, cnd_cnd_f, cnd_same, cnd_dvb, cnd_and, cnd_or, ↓evx_pick, gd_bool, gd_boolf, gd_tup, cnd_t, cnd_f, evTo, isCall, evx, put, lk, Od.v, keepEnv, enterEnv, ldx_ref, rdc, binx, binI, binS, unx, eqk, DV.isU, DV.cells, hget, hget0, hset, hset0, stx_ref, splice, DV.one, fillp, mat, eqcs, eqs, a]; exact ⟨rfl, rfl⟩)] | rw [t_cnd (by simp [lk, keepEnv, Od.v, a]; exact rfl)] | rw [t_blk])); simp [ends_ret, ends_norm, resL, evOps, evOp_n, evOp_r, evOp_d, evOp_dr, kpo_refl, kpo_app, cnd_some, cnd_pair, cnd_cnd_t, cnd_cnd_f, cnd_same, cnd_dvb, cnd_and, cnd_or, ↓evx_pick, gd_bool, gd_boolf, gd_tup, cnd_t, cnd_f, evTo, isCall, evx, put, lk, Od.v, keepEnv, enterEnv, ldx_ref, rdc, binx, binI, binS, unx, eqk, DV.isU, DV.cells, hget, hget0, hset, hset0, stx_ref, splice, DV.one, fillp, mat, eqcs, eqs, fin, fz0, fz1, fzT, fzL, nlt, a]
/-- The heap in which a set is made. -/
def hb (H : Heap) (ws : List Nat) : Heap := H ++ [.box 34 [.nils], .row 77 1 0 (ws.map uD)]
section
variable {H : Heap} {ws : List Nat} {n : Nat}
theorem hb_vw (hn : ws.length = n) : vw (hb H ws) 1 (.row (H.length + 1) 0 0 n false) = some (ws.map uD) := by
  subst hn; simp [vw, hb, hget, List.take_of_length_le]
theorem hb_wr (hn : ws.length = n) {i : Nat} (hi : i < n) (x : Nat) : stx (hb H ws) 1 (.elem (.row (H.length + 1) 0 0 n false) 1 i 0) (.int .u64 x) = some (hb H (ws.set i x)) := by
  subst hn
  have h1 : (hb H ws)[H.length + 1]? = some (.row 77 1 0 (ws.map uD)) := by simp [hb, hget]
  have h2 : (ws.map uD)[i]? = some (uD ws[i]) := by simp [List.getElem?_eq_getElem hi]
  rw [stx, if_pos (by simp [DV.cells, DV.one])]
  simp only [h1]
  rw [if_pos (by simp [hi])]
  simp only [Nat.zero_add, h2]
  simp [eput, DV.one, hb, hset]
end
theorem loop37 {H : Heap} {f n : Nat} {cap : List DV} {word : Nat → Nat} (hb' : n ≤ 1000000) (hf : ∀ k, k < n → ∀ l, E X f (.int .i64 k :: cap) (H ++ l) = some (uD (word k), H ++ l)) :
    ∀ (m i : Nat) (ws : List Nat), n - i ≤ m → i ≤ n → ws.length = n → (∀ j, j < i → ws[j]? = some (word j)) →
      ∃ x ex ws', C X (.loop lp37_0) [(1, .func f [] cap), (4, .ref H.length 0), (5, .row (H.length + 1) 0 0 n false), (10, .int .i64 n), (11, .int .i64 i)] (hb H ws) =
        some (.exit 0, (1, .func f [] cap) :: (4, .ref H.length 0) :: (5, .row (H.length + 1) 0 0 n false) :: (10, .int .i64 n) :: (11, x) :: ex, hb H ws') ∧ ws'.length = n ∧ ∀ j, j < n → ws'[j]? = some (word j) := by
  intro m
  induction m with
  | zero =>
    intro i ws hm hi hw hj
    obtain rfl : i = n := by omega
    refine ⟨.int .i64 i, [(12, .bool false)], ws, ?_, hw, hj⟩
    rw [t_loop]
    unfold lp37_0
    (repeat (first | rw [s_assoc] | rw [s_seq_reg (by simp [evOps, evOp_n, evOp_r, evOp_d, evOp_dr, kpo_refl, kpo_app, cnd_some, cnd_pair, cnd_cnd_t, cnd_cnd_f, cnd_same, cnd_dvb, cnd_and, cnd_or, ↓evx_pick, gd_bool, gd_boolf, gd_tup, cnd_t, cnd_f, evTo, isCall, evx, put, lk, Od.v, keepEnv, enterEnv, ldx_ref, rdc, binx, binI, binS, unx, eqk, DV.isU, DV.cells, hget, hget0, hset, hset0, stx_ref, splice, DV.one, fillp, mat, eqcs, eqs]; exact ⟨rfl, rfl⟩)] | rw [s_cnd (by simp [lk, keepEnv, Od.v]; exact rfl)] | rw [cnd_t] | rw [cnd_f] | rw [s_skip] | rw [s_ret] | rw [s_exit] | rw [C_ret] | rw [C_exit] | rw [C_skip] | rw [blk_ret] | rw [blk_norm] | rw [blk_exit] | rw [blk_exit' (by decide)] | rw [blkT_ret] | rw [blkT_norm] | rw [blkT_exit] | rw [blkT_exit' (by decide)] | rw [s_blk] | rw [s_reg (by simp [evOps, evOp_n, evOp_r, evOp_d, evOp_dr, kpo_refl, kpo_app, cnd_some, cnd_pair, cnd_cnd_t, cnd_cnd_f, cnd_same, cnd_dvb, cnd_and, cnd_or, ↓evx_pick, gd_bool, gd_boolf, gd_tup, cnd_t, cnd_f, evTo, isCall, evx, put, lk, Od.v, keepEnv, enterEnv, ldx_ref, rdc, binx, binI, binS, unx, eqk, DV.isU, DV.cells, hget, hget0, hset, hset0, stx_ref, splice, DV.one, fillp, mat, eqcs, eqs]; exact ⟨rfl, rfl⟩)] | rw [t_cnd (by simp [lk, keepEnv, Od.v]; exact rfl)] | rw [t_blk]))
    rw [lp_exit]
    simp [keepEnv, lk]
  | succ m ih =>
    intro i ws hm hi hw hj
    by_cases w0 : i < n
    · obtain ⟨I, hI⟩ : ∃ I, I = i + 1 := ⟨_, rfl⟩
      have w1 : IntKind.i64.wrap ((i : Int) + 1) = (I : Int) := (by rw [wrap64 _ (by omega) (by omega)]; omega)
      have e1 : E X f (.int .i64 i :: cap) (hb H ws) = some (uD (word i), hb H ws) := hf i w0 _
      have a1 := hb_vw (H := H) hw
      have a2 := hb_wr (H := H) hw w0 (word i)
      have hs : C X lp37_0 [(1, .func f [] cap), (4, .ref H.length 0), (5, .row (H.length + 1) 0 0 n false), (10, .int .i64 n), (11, .int .i64 i)] (hb H ws) = some (.norm, [(1, .func f [] cap), (4, .ref H.length 0), (5, .row (H.length + 1) 0 0 n false), (10, .int .i64 n), (11, .int .i64 I)], hb H (ws.set i (word i))) := by
        unfold lp37_0
        (repeat (first | rw [s_assoc] | rw [s_seq_reg (by simp [evOps, evOp_n, evOp_r, evOp_d, evOp_dr, kpo_refl, kpo_app, cnd_some, cnd_pair, cnd_cnd_t, cnd_cnd_f, cnd_same, cnd_dvb, cnd_and, cnd_or, ↓evx_pick, gd_bool, gd_boolf, gd_tup, cnd_t, cnd_f, evTo, isCall, evx, put, lk, Od.v, keepEnv, enterEnv, ldx_ref, rdc, binx, binI, binS, unx, eqk, DV.isU, DV.cells, hget, hget0, hset, hset0, stx_ref, splice, DV.one, fillp, mat, eqcs, eqs, w0, w1, e1, a1, a2, hw]; exact ⟨rfl, rfl⟩)] | rw [s_cnd (by simp [lk, keepEnv, Od.v, w0, w1, e1, a1, a2, hw]; exact rfl)] | rw [cnd_t] | rw [cnd_f] | rw [s_skip] | rw [s_ret] | rw [s_exit] | rw [C_ret] | rw [C_exit] | rw [C_skip] | rw [blk_ret] | rw [blk_norm] | rw [blk_exit] | rw [blk_exit' (by decide)] | rw [blkT_ret] | rw [blkT_norm] | rw [blkT_exit] | rw [blkT_exit' (by decide)] | rw [s_blk] | rw [s_reg (by simp [evOps, evOp_n, evOp_r, evOp_d, evOp_dr, kpo_refl, kpo_app, cnd_some, cnd_pair, cnd_cnd_t, cnd_cnd_f, cnd_same, cnd_dvb, cnd_and, cnd_or, ↓evx_pick, gd_bool, gd_boolf, gd_tup, cnd_t, cnd_f, evTo, isCall, evx, put, lk, Od.v, keepEnv, enterEnv, ldx_ref, rdc, binx, binI, binS, unx, eqk, DV.isU, DV.cells, hget, hget0, hset, hset0, stx_ref, splice, DV.one, fillp, mat, eqcs, eqs, w0, w1, e1, a1, a2, hw]; exact ⟨rfl, rfl⟩)] | rw [t_cnd (by simp [lk, keepEnv, Od.v, w0, w1, e1, a1, a2, hw]; exact rfl)] | rw [t_blk]))
        simp [keepEnv, lk]
      rw [t_loop, hs, lp_norm]
      refine ih I _ (by omega) (by omega) (by simpa using hw) (fun j hj' => ?_)
      by_cases hji : j = i
      · subst hji; exact List.getElem?_set_self (by omega)
      · rw [List.getElem?_set_ne (Ne.symm hji)]; exact hj j (by omega)
    · exact ih i ws (by omega) hi hw hj
theorem run37 {H : Heap} {f n : Nat} {cap : List DV} {word : Nat → Nat} (hb' : n ≤ 1000000) (hf : ∀ k, k < n → ∀ l, E X f (.int .i64 k :: cap) (H ++ l) = some (uD (word k), H ++ l)) :
    E X 37 [.int .i64 n, .func f [] cap] H = some (.agg [.list 1 (((List.range n).map word).map uD) false], H) := by
  obtain ⟨x, ex, ws, c1, hl, hw⟩ := loop37 hb' hf n 0 (List.replicate n 0) (by omega) (by omega) (by simp) (fun j hj => by omega)
  have hws : ws = (List.range n).map word := by
    apply List.ext_getElem?
    intro j
    by_cases hj : j < n
    · rw [hw j hj]; simp [hj]
    · rw [List.getElem?_eq_none (by omega), List.getElem?_eq_none (by simp; omega)]
  have h0 : H ++ [HO.box 34 [.nils], .row 77 1 0 (List.replicate n (.int .u64 0))] = hb H (List.replicate n 0) := by simp [hb, uD]
  have z1 : Wc 1 (.int .u64 0) := by simp [Wc, DV.cells, DV.one]
  have z2 : (n : Int) * 8 ≤ 140737488355328 := by omega
  have a1 := hb_vw (H := H) (ws := List.replicate n 0) (n := n) (by simp)
  have g1 : (hb H ws)[H.length]? = some (.box 34 [.nils]) := by simp [hb, hget0]
  have g2 : (hb H ws).set H.length (.box 34 [.row (H.length + 1) 0 0 n false]) = H ++ [.box 34 [.row (H.length + 1) 0 0 n false], .row 77 1 0 (ws.map uD)] := by simp [hb, hset0]
  rw [show ((0 : Nat) : Int) = 0 from rfl] at c1
  unfold lp37_0 at c1
  have q1 : ∀ y ∈ ws.map uD, Nr y := by intro y hy; obtain ⟨z, _, rfl⟩ := List.mem_map.1 hy; exact .int _ _
  rw [E_go (X := X) _ b37 _ rfl rfl]; unfold b37
  (repeat (first | rw [s_assoc] | rw [s_seq_reg (by simp [evOps, evOp_n, evOp_r, evOp_d, evOp_dr, kpo_refl, kpo_app, cnd_some, cnd_pair, cnd_cnd_t, cnd_cnd_f, cnd_same, cnd_dvb, cnd_and, cnd_or, ↓evx_pick, gd_bool, gd_boolf, gd_tup, cnd_t, cnd_f, evTo, isCall, evx, put, lk, Od.v, keepEnv, enterEnv, ldx_ref, rdc, binx, binI, binS, unx, eqk, DV.isU, DV.cells, hget, hget0, hset, hset0, stx_ref, splice, DV.one, fillp, mat, eqcs, eqs, z1, z2, h0, a1]; exact ⟨rfl, rfl⟩)] | rw [s_cnd (by simp [lk, keepEnv, Od.v, z1, z2, h0, a1]; exact rfl)] | rw [cnd_t] | rw [cnd_f] | rw [s_skip] | rw [s_ret] | rw [s_exit] | rw [C_ret] | rw [C_exit] | rw [C_skip] | rw [blk_ret] | rw [blk_norm] | rw [blk_exit] | rw [blk_exit' (by decide)] | rw [blkT_ret] | rw [blkT_norm] | rw [blkT_exit] | rw [blkT_exit' (by decide)] | rw [s_blk] | rw [s_reg (by simp [evOps, evOp_n, evOp_r, evOp_d, evOp_dr, kpo_refl, kpo_app, cnd_some, cnd_pair, cnd_cnd_t, cnd_cnd_f, cnd_same, cnd_dvb, cnd_and, cnd_or, ↓evx_pick, gd_bool, gd_boolf, gd_tup, cnd_t, cnd_f, evTo, isCall, evx, put, lk, Od.v, keepEnv, enterEnv, ldx_ref, rdc, binx, binI, binS, unx, eqk, DV.isU, DV.cells, hget, hget0, hset, hset0, stx_ref, splice, DV.one, fillp, mat, eqcs, eqs, z1, z2, h0, a1]; exact ⟨rfl, rfl⟩)] | rw [t_cnd (by simp [lk, keepEnv, Od.v, z1, z2, h0, a1]; exact rfl)] | rw [t_blk]))
  (try simp only [keepEnv, List.map_cons, List.map_nil, lk, reduceIte, Nat.reduceEqDiff, Nat.zero_ne_one, Nat.one_ne_zero])
  rw [c1]
  (repeat (first | rw [s_assoc] | rw [s_seq_reg (by simp [evOps, evOp_n, evOp_r, evOp_d, evOp_dr, kpo_refl, kpo_app, cnd_some, cnd_pair, cnd_cnd_t, cnd_cnd_f, cnd_same, cnd_dvb, cnd_and, cnd_or, ↓evx_pick, gd_bool, gd_boolf, gd_tup, cnd_t, cnd_f, evTo, isCall, evx, put, lk, Od.v, keepEnv, enterEnv, ldx_ref, rdc, binx, binI, binS, unx, eqk, DV.isU, DV.cells, hget, hget0, hset, hset0, stx_ref, splice, DV.one, fillp, mat, eqcs, eqs, g1, g2]; exact ⟨rfl, rfl⟩)] | rw [s_cnd (by simp [lk, keepEnv, Od.v, g1, g2]; exact rfl)] | rw [cnd_t] | rw [cnd_f] | rw [s_skip] | rw [s_ret] | rw [s_exit] | rw [C_ret] | rw [C_exit] | rw [C_skip] | rw [blk_ret] | rw [blk_norm] | rw [blk_exit] | rw [blk_exit' (by decide)] | rw [blkT_ret] | rw [blkT_norm] | rw [blkT_exit] | rw [blkT_exit' (by decide)] | rw [s_blk] | rw [s_reg (by simp [evOps, evOp_n, evOp_r, evOp_d, evOp_dr, kpo_refl, kpo_app, cnd_some, cnd_pair, cnd_cnd_t, cnd_cnd_f, cnd_same, cnd_dvb, cnd_and, cnd_or, ↓evx_pick, gd_bool, gd_boolf, gd_tup, cnd_t, cnd_f, evTo, isCall, evx, put, lk, Od.v, keepEnv, enterEnv, ldx_ref, rdc, binx, binI, binS, unx, eqk, DV.isU, DV.cells, hget, hget0, hset, hset0, stx_ref, splice, DV.one, fillp, mat, eqcs, eqs, g1, g2]; exact ⟨rfl, rfl⟩)] | rw [t_cnd (by simp [lk, keepEnv, Od.v, g1, g2]; exact rfl)] | rw [t_blk]))
  rw [← hws]
  have f1 : fz1 H.length (H ++ [HO.box 34 [.row (H.length + 1) 0 0 n false], HO.row 77 1 0 (ws.map uD)]) true (.agg [.row (H.length + 1) 0 0 n false]) = some (.agg [.list 1 (ws.map uD) false], (H ++ [HO.box 34 [.row (H.length + 1) 0 0 n false], HO.row 77 1 0 (ws.map uD)]).set (H.length + 1) (.frz 77 1 0 (ws.map uD))) := by
    rw [fz1]
    simp only [fzL]
    rw [fz0, if_neg (by omega), hget]
    simp only [List.getElem?_cons_succ, List.getElem?_cons_zero]
    rw [if_pos ⟨rfl, by simp [hl], q1⟩, if_neg (by simp)]
    simp [← hl, List.take_of_length_le]
  have c5 : fin H (H ++ [HO.box 34 [.row (H.length + 1) 0 0 n false], HO.row 77 1 0 (ws.map uD)]) [.agg [.row (H.length + 1) 0 0 n false]] = (.agg [.list 1 (ws.map uD) false], H) := by
    simp only [fin]
    rw [if_pos List.take_left, f1]
  simp [ends_norm, ends_ret, resL, keepEnv, lk, ldx_ref, hget0, rdc]
  rw [c5]
end Go.Proofs.YtfgnefnpfgdliaaDoor
