/- Ideal runs: what a node needs, what is wrong with a filter. -/
import Derived.Test.YtobpbjmnonbblaaDoorQryB
import Derived.Test.YtobpbjmnonbblaaDoorNod
namespace Go.Proofs.YtobpbjmnonbblaaDoor
attribute [local go_sem] evOps evOp_n evOp_r evOp_d evOp_dr kpo_refl kpo_app cnd_some cnd_pair cnd_cnd_t cnd_cnd_f cnd_same cnd_dvb cnd_and cnd_or gd_bool gd_boolf gd_tup cnd_t cnd_f evTo isCall evx put lk Od.v keepEnv enterEnv ldx_ref rdc binx binI binS unx eqk DV.isU DV.cells hget hget0 hset hset0 stx_ref splice fillp mat eqcs eqs one_bool one_int one_str one_nilp one_ref one_elem one_nils one_list one_row one_nilm one_map one_nilf one_func one_nili one_ifc one_agg one_tup one_undef one_fresh
attribute [local go_sem ↓] evx_pick
set_option linter.unusedVariables false
set_option linter.unusedSimpArgs false
set_option maxRecDepth 10000
def needsV (a : Int) : Int := if a = 0 then 0 else if 1 ≤ a ∧ a ≤ 6 then 1 else if a = 7 then 2 else if a = 8 ∨ a = 9 then 3 else if a = 10 then 4 else 5
theorem run29 (a : Int) (h : Heap) : E X 29 [.int .i64 a] h = some (.int .i64 (needsV a), h) := by
  by_cases c0 : a = 0
  · subst c0
    rw [E_go (X := X) _ b29 _ rfl rfl]; unfold b29; (repeat (first | rw [s_assoc] | rw [s_seq_reg (by simp [go_sem, needsV]; exact ⟨rfl, rfl⟩)] | rw [s_cnd (by simp [lk, keepEnv, Od.v, needsV]; exact rfl)] | rw [cnd_t] | rw [cnd_f] | rw [s_skip] | rw [s_ret] | rw [s_exit] | rw [C_ret] | rw [C_exit] | rw [C_skip] | rw [blk_ret] | rw [blk_norm] | rw [blk_exit] | rw [blk_exit' (by decide)] | rw [blkT_ret] | rw [blkT_norm] | rw [blkT_exit] | rw [blkT_exit' (by decide)] | rw [s_blk] | rw [s_reg (by simp [go_sem, needsV]; exact ⟨rfl, rfl⟩)] | rw [t_cnd (by simp [lk, keepEnv, Od.v, needsV]; exact rfl)] | rw [t_blk])); simp [ends_ret, ends_norm, resL, go_sem, fin, fz0, fz1, fzT, fzL, nlt, needsV]
  have d0 : (a == 0) = false := by simpa using c0
  by_cases c1 : 1 ≤ a
  · by_cases c6 : a ≤ 6
    · have hv : needsV a = 1 := by simp [needsV, c0, c1, c6]
      rw [hv]
      rw [E_go (X := X) _ b29 _ rfl rfl]; unfold b29; (repeat (first | rw [s_assoc] | rw [s_seq_reg (by simp [go_sem, c0, d0, c1, c6]; exact ⟨rfl, rfl⟩)] | rw [s_cnd (by simp [lk, keepEnv, Od.v, c0, d0, c1, c6]; exact rfl)] | rw [cnd_t] | rw [cnd_f] | rw [s_skip] | rw [s_ret] | rw [s_exit] | rw [C_ret] | rw [C_exit] | rw [C_skip] | rw [blk_ret] | rw [blk_norm] | rw [blk_exit] | rw [blk_exit' (by decide)] | rw [blkT_ret] | rw [blkT_norm] | rw [blkT_exit] | rw [blkT_exit' (by decide)] | rw [s_blk] | rw [s_reg (by simp [go_sem, c0, d0, c1, c6]; exact ⟨rfl, rfl⟩)] | rw [t_cnd (by simp [lk, keepEnv, Od.v, c0, d0, c1, c6]; exact rfl)] | rw [t_blk])); simp [ends_ret, ends_norm, resL, go_sem, fin, fz0, fz1, fzT, fzL, nlt, c0, d0, c1, c6]
    · by_cases c7 : a = 7
      · subst c7
        rw [E_go (X := X) _ b29 _ rfl rfl]; unfold b29; (repeat (first | rw [s_assoc] | rw [s_seq_reg (by simp [go_sem, needsV]; exact ⟨rfl, rfl⟩)] | rw [s_cnd (by simp [lk, keepEnv, Od.v, needsV]; exact rfl)] | rw [cnd_t] | rw [cnd_f] | rw [s_skip] | rw [s_ret] | rw [s_exit] | rw [C_ret] | rw [C_exit] | rw [C_skip] | rw [blk_ret] | rw [blk_norm] | rw [blk_exit] | rw [blk_exit' (by decide)] | rw [blkT_ret] | rw [blkT_norm] | rw [blkT_exit] | rw [blkT_exit' (by decide)] | rw [s_blk] | rw [s_reg (by simp [go_sem, needsV]; exact ⟨rfl, rfl⟩)] | rw [t_cnd (by simp [lk, keepEnv, Od.v, needsV]; exact rfl)] | rw [t_blk])); simp [ends_ret, ends_norm, resL, go_sem, fin, fz0, fz1, fzT, fzL, nlt, needsV]
      have d7 : (a == 7) = false := by simpa using c7
      by_cases c8 : a = 8
      · subst c8
        rw [E_go (X := X) _ b29 _ rfl rfl]; unfold b29; (repeat (first | rw [s_assoc] | rw [s_seq_reg (by simp [go_sem, needsV]; exact ⟨rfl, rfl⟩)] | rw [s_cnd (by simp [lk, keepEnv, Od.v, needsV]; exact rfl)] | rw [cnd_t] | rw [cnd_f] | rw [s_skip] | rw [s_ret] | rw [s_exit] | rw [C_ret] | rw [C_exit] | rw [C_skip] | rw [blk_ret] | rw [blk_norm] | rw [blk_exit] | rw [blk_exit' (by decide)] | rw [blkT_ret] | rw [blkT_norm] | rw [blkT_exit] | rw [blkT_exit' (by decide)] | rw [s_blk] | rw [s_reg (by simp [go_sem, needsV]; exact ⟨rfl, rfl⟩)] | rw [t_cnd (by simp [lk, keepEnv, Od.v, needsV]; exact rfl)] | rw [t_blk])); simp [ends_ret, ends_norm, resL, go_sem, fin, fz0, fz1, fzT, fzL, nlt, needsV]
      have d8 : (a == 8) = false := by simpa using c8
      by_cases c9 : a = 9
      · subst c9
        rw [E_go (X := X) _ b29 _ rfl rfl]; unfold b29; (repeat (first | rw [s_assoc] | rw [s_seq_reg (by simp [go_sem, needsV]; exact ⟨rfl, rfl⟩)] | rw [s_cnd (by simp [lk, keepEnv, Od.v, needsV]; exact rfl)] | rw [cnd_t] | rw [cnd_f] | rw [s_skip] | rw [s_ret] | rw [s_exit] | rw [C_ret] | rw [C_exit] | rw [C_skip] | rw [blk_ret] | rw [blk_norm] | rw [blk_exit] | rw [blk_exit' (by decide)] | rw [blkT_ret] | rw [blkT_norm] | rw [blkT_exit] | rw [blkT_exit' (by decide)] | rw [s_blk] | rw [s_reg (by simp [go_sem, needsV]; exact ⟨rfl, rfl⟩)] | rw [t_cnd (by simp [lk, keepEnv, Od.v, needsV]; exact rfl)] | rw [t_blk])); simp [ends_ret, ends_norm, resL, go_sem, fin, fz0, fz1, fzT, fzL, nlt, needsV]
      have d9 : (a == 9) = false := by simpa using c9
      by_cases c10 : a = 10
      · subst c10
        rw [E_go (X := X) _ b29 _ rfl rfl]; unfold b29; (repeat (first | rw [s_assoc] | rw [s_seq_reg (by simp [go_sem, needsV]; exact ⟨rfl, rfl⟩)] | rw [s_cnd (by simp [lk, keepEnv, Od.v, needsV]; exact rfl)] | rw [cnd_t] | rw [cnd_f] | rw [s_skip] | rw [s_ret] | rw [s_exit] | rw [C_ret] | rw [C_exit] | rw [C_skip] | rw [blk_ret] | rw [blk_norm] | rw [blk_exit] | rw [blk_exit' (by decide)] | rw [blkT_ret] | rw [blkT_norm] | rw [blkT_exit] | rw [blkT_exit' (by decide)] | rw [s_blk] | rw [s_reg (by simp [go_sem, needsV]; exact ⟨rfl, rfl⟩)] | rw [t_cnd (by simp [lk, keepEnv, Od.v, needsV]; exact rfl)] | rw [t_blk])); simp [ends_ret, ends_norm, resL, go_sem, fin, fz0, fz1, fzT, fzL, nlt, needsV]
      have d10 : (a == 10) = false := by simpa using c10
      have hv : needsV a = 5 := by simp [needsV, c0, c6, c7, c8, c9, c10]
      rw [hv]
      rw [E_go (X := X) _ b29 _ rfl rfl]; unfold b29; (repeat (first | rw [s_assoc] | rw [s_seq_reg (by simp [go_sem, c0, d0, c1, c6, c7, d7, c8, d8, c9, d9, c10, d10]; exact ⟨rfl, rfl⟩)] | rw [s_cnd (by simp [lk, keepEnv, Od.v, c0, d0, c1, c6, c7, d7, c8, d8, c9, d9, c10, d10]; exact rfl)] | rw [cnd_t] | rw [cnd_f] | rw [s_skip] | rw [s_ret] | rw [s_exit] | rw [C_ret] | rw [C_exit] | rw [C_skip] | rw [blk_ret] | rw [blk_norm] | rw [blk_exit] | rw [blk_exit' (by decide)] | rw [blkT_ret] | rw [blkT_norm] | rw [blkT_exit] | rw [blkT_exit' (by decide)] | rw [s_blk] | rw [s_reg (by simp [go_sem, c0, d0, c1, c6, c7, d7, c8, d8, c9, d9, c10, d10]; exact ⟨rfl, rfl⟩)] | rw [t_cnd (by simp [lk, keepEnv, Od.v, c0, d0, c1, c6, c7, d7, c8, d8, c9, d9, c10, d10]; exact rfl)] | rw [t_blk])); simp [ends_ret, ends_norm, resL, go_sem, fin, fz0, fz1, fzT, fzL, nlt, c0, d0, c1, c6, c7, d7, c8, d8, c9, d9, c10, d10]
  · have c7 : ¬ a = 7 := by omega
    have d7 : (a == 7) = false := by simpa using c7
    have c8 : ¬ a = 8 := by omega
    have d8 : (a == 8) = false := by simpa using c8
    have c9 : ¬ a = 9 := by omega
    have d9 : (a == 9) = false := by simpa using c9
    have c10 : ¬ a = 10 := by omega
    have d10 : (a == 10) = false := by simpa using c10
    have hv : needsV a = 5 := by simp [needsV, c0, c1, c7, c8, c9, c10]
    rw [hv]
    rw [E_go (X := X) _ b29 _ rfl rfl]; unfold b29; (repeat (first | rw [s_assoc] | rw [s_seq_reg (by simp [go_sem, c0, d0, c1, c7, d7, c8, d8, c9, d9, c10, d10]; exact ⟨rfl, rfl⟩)] | rw [s_cnd (by simp [lk, keepEnv, Od.v, c0, d0, c1, c7, d7, c8, d8, c9, d9, c10, d10]; exact rfl)] | rw [cnd_t] | rw [cnd_f] | rw [s_skip] | rw [s_ret] | rw [s_exit] | rw [C_ret] | rw [C_exit] | rw [C_skip] | rw [blk_ret] | rw [blk_norm] | rw [blk_exit] | rw [blk_exit' (by decide)] | rw [blkT_ret] | rw [blkT_norm] | rw [blkT_exit] | rw [blkT_exit' (by decide)] | rw [s_blk] | rw [s_reg (by simp [go_sem, c0, d0, c1, c7, d7, c8, d8, c9, d9, c10, d10]; exact ⟨rfl, rfl⟩)] | rw [t_cnd (by simp [lk, keepEnv, Od.v, c0, d0, c1, c7, d7, c8, d8, c9, d9, c10, d10]; exact rfl)] | rw [t_blk])); simp [ends_ret, ends_norm, resL, go_sem, fin, fz0, fz1, fzT, fzL, nlt, c0, d0, c1, c7, d7, c8, d8, c9, d9, c10, d10]
def hasV (s : Sch) (i : Int) : Bool := decide (0 ≤ i) && decide (i < s.cols.length)
theorem run24 {Cd : DV} {s : Sch} (hC : ∀ g, vw g 3 Cd = some (s.cols.map Cl.d)) (i : Int) (H : Heap) : E X 24 [schD Cd s, .int .i64 i] H = some (.bool (hasV s i), H) := by
  unfold hasV
  obtain ⟨cols, k1, k2, k3, k4⟩ := s
  simp only [schD, schC] at *
  by_cases c1 : 0 ≤ i
  · rw [E_go (X := X) _ b24 _ rfl rfl]; unfold b24; (repeat (first | rw [s_assoc] | rw [s_seq_reg (by simp [go_sem, hC, c1, ldx]; exact ⟨rfl, rfl⟩)] | rw [s_cnd (by simp [lk, keepEnv, Od.v, hC, c1, ldx]; exact rfl)] | rw [cnd_t] | rw [cnd_f] | rw [s_skip] | rw [s_ret] | rw [s_exit] | rw [C_ret] | rw [C_exit] | rw [C_skip] | rw [blk_ret] | rw [blk_norm] | rw [blk_exit] | rw [blk_exit' (by decide)] | rw [blkT_ret] | rw [blkT_norm] | rw [blkT_exit] | rw [blkT_exit' (by decide)] | rw [s_blk] | rw [s_reg (by simp [go_sem, hC, c1, ldx]; exact ⟨rfl, rfl⟩)] | rw [t_cnd (by simp [lk, keepEnv, Od.v, hC, c1, ldx]; exact rfl)] | rw [t_blk])); simp [ends_ret, ends_norm, resL, go_sem, fin, fz0, fz1, fzT, fzL, nlt, hC, c1, ldx]
  · rw [E_go (X := X) _ b24 _ rfl rfl]; unfold b24; (repeat (first | rw [s_assoc] | rw [s_seq_reg (by simp [go_sem, hC, c1, ldx]; exact ⟨rfl, rfl⟩)] | rw [s_cnd (by simp [lk, keepEnv, Od.v, hC, c1, ldx]; exact rfl)] | rw [cnd_t] | rw [cnd_f] | rw [s_skip] | rw [s_ret] | rw [s_exit] | rw [C_ret] | rw [C_exit] | rw [C_skip] | rw [blk_ret] | rw [blk_norm] | rw [blk_exit] | rw [blk_exit' (by decide)] | rw [blkT_ret] | rw [blkT_norm] | rw [blkT_exit] | rw [blkT_exit' (by decide)] | rw [s_blk] | rw [s_reg (by simp [go_sem, hC, c1, ldx]; exact ⟨rfl, rfl⟩)] | rw [t_cnd (by simp [lk, keepEnv, Od.v, hC, c1, ldx]; exact rfl)] | rw [t_blk])); simp [ends_ret, ends_norm, resL, go_sem, fin, fz0, fz1, fzT, fzL, nlt, hC, c1, ldx]
def ahV (i : Nat) (a : Int) : Bool := decide (0 ≤ a) && decide (a < i)
theorem run42 {h : Heap} {b t i : Nat} (hb : h[b]? = some (.box t [.int .i64 i])) (a : Int) : E X 42 [.int .i64 a, .ref b 0] h = some (.bool (ahV i a), h) := by
  unfold ahV
  by_cases c1 : 0 ≤ a
  · rw [E_go (X := X) _ b42 _ rfl rfl]; unfold b42; (repeat (first | rw [s_assoc] | rw [s_seq_reg (by simp [go_sem, hb, c1, ldx]; exact ⟨rfl, rfl⟩)] | rw [s_cnd (by simp [lk, keepEnv, Od.v, hb, c1, ldx]; exact rfl)] | rw [cnd_t] | rw [cnd_f] | rw [s_skip] | rw [s_ret] | rw [s_exit] | rw [C_ret] | rw [C_exit] | rw [C_skip] | rw [blk_ret] | rw [blk_norm] | rw [blk_exit] | rw [blk_exit' (by decide)] | rw [blkT_ret] | rw [blkT_norm] | rw [blkT_exit] | rw [blkT_exit' (by decide)] | rw [s_blk] | rw [s_reg (by simp [go_sem, hb, c1, ldx]; exact ⟨rfl, rfl⟩)] | rw [t_cnd (by simp [lk, keepEnv, Od.v, hb, c1, ldx]; exact rfl)] | rw [t_blk])); simp [ends_ret, ends_norm, resL, go_sem, fin, fz0, fz1, fzT, fzL, nlt, hb, c1, ldx]
  · rw [E_go (X := X) _ b42 _ rfl rfl]; unfold b42; (repeat (first | rw [s_assoc] | rw [s_seq_reg (by simp [go_sem, hb, c1, ldx]; exact ⟨rfl, rfl⟩)] | rw [s_cnd (by simp [lk, keepEnv, Od.v, hb, c1, ldx]; exact rfl)] | rw [cnd_t] | rw [cnd_f] | rw [s_skip] | rw [s_ret] | rw [s_exit] | rw [C_ret] | rw [C_exit] | rw [C_skip] | rw [blk_ret] | rw [blk_norm] | rw [blk_exit] | rw [blk_exit' (by decide)] | rw [blkT_ret] | rw [blkT_norm] | rw [blkT_exit] | rw [blkT_exit' (by decide)] | rw [s_blk] | rw [s_reg (by simp [go_sem, hb, c1, ldx]; exact ⟨rfl, rfl⟩)] | rw [t_cnd (by simp [lk, keepEnv, Od.v, hb, c1, ldx]; exact rfl)] | rw [t_blk])); simp [ends_ret, ends_norm, resL, go_sem, fin, fz0, fz1, fzT, fzL, nlt, hb, c1, ldx]
/-- What is wrong with a node of a number. -/
def nodeV (s : Sch) (i : Nat) (x : N) : Int :=
  if needsV x.ask = 5 then 1 else if needsV x.ask = 1 ∨ needsV x.ask = 2 then (match getI s.cols x.col with
    | none => 3
    | some c => if x.ask ≠ 7 ∧ (x.val.k ≠ c.kd ∨ mayV x.val = false) then 9 else 0)
  else if needsV x.ask = 3 then (if ahV i x.a = true ∧ ahV i x.b = true then 0 else 5) else if needsV x.ask = 4 then (if ahV i x.a = true then 0 else 5) else 0
def filtV (s : Sch) : List N → Nat → Int
  | [], _ => 0
  | x :: l, i => if nodeV s i x = 0 then filtV s l (i + 1) else nodeV s i x
theorem needs_cases (a : Int) : needsV a = 0 ∨ (needsV a = 1 ∧ a ≠ 7) ∨ (needsV a = 2 ∧ a = 7) ∨ needsV a = 3 ∨ needsV a = 4 ∨ needsV a = 5 := by
  unfold needsV
  split
  · simp
  · split
    · right; left; omega
    · split
      · right; right; left; omega
      · split
        · simp
        · split <;> simp
set_option maxHeartbeats 1000000 in
theorem body20 {h : Heap} {Cd F : DV} {s : Sch} {b i I n : Nat} {x : N} {xs : List N} (hC : ∀ g, vw g 3 Cd = some (s.cols.map Cl.d)) (hb : h[b]? = some (.box 24 (schC Cd s))) (hF : vw h 8 F = some (xs.map N.d)) (hn : n = xs.length) (hx : xs[i]? = some x) (z1 : IntKind.i64.wrap ((i : Int) + 1) = (I : Int)) :
    C X lp20_0 [(2, .ref b 0), (5, .int .i64 0), (9, F), (10, .int .i64 n), (11, .int .i64 i)] h = some (if nodeV s i x = 0 then (.norm, [(2, .ref b 0), (5, .int .i64 0), (9, F), (10, .int .i64 n), (11, .int .i64 I)], h ++ [.box 3 [.int .i64 i], .box 41 x.d.cells]) else (.exit 0, [(5, .int .i64 (nodeV s i x))], h ++ [.box 3 [.int .i64 i], .box 41 x.d.cells])) := by
  subst hn
  obtain ⟨c, hx1⟩ := List.getElem?_eq_some_iff.1 hx
  have e29 := fun g => run29 x.ask g
  have e24 := fun g => run24 hC x.col g
  have e43 := fun g => run43 x.val g
  have hb2 : ∀ G, (h ++ G)[b]? = some (.box 24 (schC Cd s)) := fun G => by rw [List.getElem?_append_left (List.getElem?_eq_some_iff.1 hb).1]; exact hb
  have q1 : ∀ y, (h ++ [HO.box 3 [.int .i64 i], y])[h.length]? = some (.box 3 [.int .i64 i]) := fun y => by simp
  have e42a := fun y => run42 (q1 y) x.a
  have e42b := fun y => run42 (q1 y) x.b
  rcases needs_cases x.ask with n0 | ⟨n0, a7⟩ | ⟨n0, a7⟩ | n0 | n0 | n0
  · have hv : nodeV s i x = 0 := by simp [nodeV, n0]
    rw [hv, if_pos rfl]
    rw [n0] at e29
    obtain ⟨ask, col, ⟨vk, vn, vs', vt⟩, xa, xb⟩ := x
    obtain ⟨cols, k1, k2, k3, k4⟩ := s
    simp only [N.d, V.d, schD, schC] at *
    clear hv n0 e42a e42b
    unfold lp20_0
    (repeat (first | rw [s_assoc] | rw [s_seq_reg (by simp [go_sem, c, z1, hF, hx1, hx, e29, hb, hb2, ldx]; exact ⟨rfl, rfl⟩)] | rw [s_cnd (by simp [lk, keepEnv, Od.v, c, z1, hF, hx1, hx, e29, hb, hb2, ldx]; exact rfl)] | rw [cnd_t] | rw [cnd_f] | rw [s_skip] | rw [s_ret] | rw [s_exit] | rw [C_ret] | rw [C_exit] | rw [C_skip] | rw [blk_ret] | rw [blk_norm] | rw [blk_exit] | rw [blk_exit' (by decide)] | rw [blkT_ret] | rw [blkT_norm] | rw [blkT_exit] | rw [blkT_exit' (by decide)] | rw [s_blk] | rw [s_reg (by simp [go_sem, c, z1, hF, hx1, hx, e29, hb, hb2, ldx]; exact ⟨rfl, rfl⟩)] | rw [t_cnd (by simp [lk, keepEnv, Od.v, c, z1, hF, hx1, hx, e29, hb, hb2, ldx]; exact rfl)] | rw [t_blk]))
    simp [keepEnv, lk, DV.cells]
  · rw [n0] at e29
    cases hg : getI s.cols x.col with
    | none =>
      have hv : nodeV s i x = 3 := by simp [nodeV, n0, hg]
      rw [hv, if_neg (by omega)]
      have hh : hasV s x.col = false := by
        unfold getI at hg
        unfold hasV
        by_cases c1 : 0 ≤ x.col
        · rw [if_pos c1] at hg
          have := List.getElem?_eq_none_iff.1 hg
          have : ¬ x.col < (s.cols.length : Int) := by omega
          simp [this]
        · simp [c1]
      rw [hh] at e24
      obtain ⟨ask, col, ⟨vk, vn, vs', vt⟩, xa, xb⟩ := x
      obtain ⟨cols, k1, k2, k3, k4⟩ := s
      simp only [N.d, V.d, schD, schC] at *
      clear hv n0 e42a e42b hg hh
      unfold lp20_0
      (repeat (first | rw [s_assoc] | rw [s_seq_reg (by simp [go_sem, c, z1, hF, hx1, hx, e29, e24, hb, hb2, ldx]; exact ⟨rfl, rfl⟩)] | rw [s_cnd (by simp [lk, keepEnv, Od.v, c, z1, hF, hx1, hx, e29, e24, hb, hb2, ldx]; exact rfl)] | rw [cnd_t] | rw [cnd_f] | rw [s_skip] | rw [s_ret] | rw [s_exit] | rw [C_ret] | rw [C_exit] | rw [C_skip] | rw [blk_ret] | rw [blk_norm] | rw [blk_exit] | rw [blk_exit' (by decide)] | rw [blkT_ret] | rw [blkT_norm] | rw [blkT_exit] | rw [blkT_exit' (by decide)] | rw [s_blk] | rw [s_reg (by simp [go_sem, c, z1, hF, hx1, hx, e29, e24, hb, hb2, ldx]; exact ⟨rfl, rfl⟩)] | rw [t_cnd (by simp [lk, keepEnv, Od.v, c, z1, hF, hx1, hx, e29, e24, hb, hb2, ldx]; exact rfl)] | rw [t_blk]))
      simp [keepEnv, lk, DV.cells]
    | some cl =>
      have hgg := hg
      unfold getI at hgg
      split at hgg
      case isFalse => cases hgg
      rename_i p0
      obtain ⟨p, hp⟩ : ∃ p : Nat, x.col = p := ⟨x.col.toNat, by omega⟩
      rw [hp, Int.toNat_natCast] at hgg
      obtain ⟨pl, hpe⟩ := List.getElem?_eq_some_iff.1 hgg
      have hh : hasV s x.col = true := by
        unfold hasV
        have : x.col < (s.cols.length : Int) := by omega
        simp [p0, this]
      rw [hh] at e24
      have a7' : (x.ask != 7) = true := by simpa using a7
      by_cases k0 : x.val.k = cl.kd
      · have k0' : (x.val.k != cl.kd) = false := by simpa using k0
        cases hm : mayV x.val
        · have hv : nodeV s i x = 9 := by simp [nodeV, n0, hg, a7, hm]
          rw [hv, if_neg (by omega)]
          rw [hm] at e43
          obtain ⟨ask, col, ⟨vk, vn, vs', vt⟩, xa, xb⟩ := x
          obtain ⟨cols, k1, k2, k3, k4⟩ := s
          obtain ⟨cn, ck, cl⟩ := cl
          simp only [N.d, V.d, schD, schC, Cl.d] at *
          have pl : p < cols.length := pl
          subst hp
          subst k0
          clear hv n0 e42a e42b hg hh hm k0'
          unfold lp20_0
          (repeat (first | rw [s_assoc] | rw [s_seq_reg (by simp [go_sem, c, z1, hF, hx1, hx, e29, e24, e43, hb, hb2, hC, a7, a7', hgg, pl, hpe, ldx]; exact ⟨rfl, rfl⟩)] | rw [s_cnd (by simp [lk, keepEnv, Od.v, c, z1, hF, hx1, hx, e29, e24, e43, hb, hb2, hC, a7, a7', hgg, pl, hpe, ldx]; exact rfl)] | rw [cnd_t] | rw [cnd_f] | rw [s_skip] | rw [s_ret] | rw [s_exit] | rw [C_ret] | rw [C_exit] | rw [C_skip] | rw [blk_ret] | rw [blk_norm] | rw [blk_exit] | rw [blk_exit' (by decide)] | rw [blkT_ret] | rw [blkT_norm] | rw [blkT_exit] | rw [blkT_exit' (by decide)] | rw [s_blk] | rw [s_reg (by simp [go_sem, c, z1, hF, hx1, hx, e29, e24, e43, hb, hb2, hC, a7, a7', hgg, pl, hpe, ldx]; exact ⟨rfl, rfl⟩)] | rw [t_cnd (by simp [lk, keepEnv, Od.v, c, z1, hF, hx1, hx, e29, e24, e43, hb, hb2, hC, a7, a7', hgg, pl, hpe, ldx]; exact rfl)] | rw [t_blk]))
          simp [keepEnv, lk, DV.cells]
        · have hv : nodeV s i x = 0 := by simp [nodeV, n0, hg, k0, hm]
          rw [hv, if_pos rfl]
          rw [hm] at e43
          obtain ⟨ask, col, ⟨vk, vn, vs', vt⟩, xa, xb⟩ := x
          obtain ⟨cols, k1, k2, k3, k4⟩ := s
          obtain ⟨cn, ck, cl⟩ := cl
          simp only [N.d, V.d, schD, schC, Cl.d] at *
          have pl : p < cols.length := pl
          subst hp
          subst k0
          clear hv n0 e42a e42b hg hh hm k0'
          unfold lp20_0
          (repeat (first | rw [s_assoc] | rw [s_seq_reg (by simp [go_sem, c, z1, hF, hx1, hx, e29, e24, e43, hb, hb2, hC, a7, a7', hgg, pl, hpe, ldx]; exact ⟨rfl, rfl⟩)] | rw [s_cnd (by simp [lk, keepEnv, Od.v, c, z1, hF, hx1, hx, e29, e24, e43, hb, hb2, hC, a7, a7', hgg, pl, hpe, ldx]; exact rfl)] | rw [cnd_t] | rw [cnd_f] | rw [s_skip] | rw [s_ret] | rw [s_exit] | rw [C_ret] | rw [C_exit] | rw [C_skip] | rw [blk_ret] | rw [blk_norm] | rw [blk_exit] | rw [blk_exit' (by decide)] | rw [blkT_ret] | rw [blkT_norm] | rw [blkT_exit] | rw [blkT_exit' (by decide)] | rw [s_blk] | rw [s_reg (by simp [go_sem, c, z1, hF, hx1, hx, e29, e24, e43, hb, hb2, hC, a7, a7', hgg, pl, hpe, ldx]; exact ⟨rfl, rfl⟩)] | rw [t_cnd (by simp [lk, keepEnv, Od.v, c, z1, hF, hx1, hx, e29, e24, e43, hb, hb2, hC, a7, a7', hgg, pl, hpe, ldx]; exact rfl)] | rw [t_blk]))
          simp [keepEnv, lk, DV.cells]
      · have k0' : (x.val.k != cl.kd) = true := by simpa using k0
        have hv : nodeV s i x = 9 := by simp [nodeV, n0, hg, a7, k0]
        rw [hv, if_neg (by omega)]
        obtain ⟨ask, col, ⟨vk, vn, vs', vt⟩, xa, xb⟩ := x
        obtain ⟨cols, k1, k2, k3, k4⟩ := s
        obtain ⟨cn, ck, cl⟩ := cl
        simp only [N.d, V.d, schD, schC, Cl.d] at *
        have pl : p < cols.length := pl
        subst hp
        clear hv n0 e42a e42b hg hh
        unfold lp20_0
        (repeat (first | rw [s_assoc] | rw [s_seq_reg (by simp [go_sem, c, z1, hF, hx1, hx, e29, e24, hb, hb2, hC, a7, a7', k0, k0', hgg, pl, hpe, ldx]; exact ⟨rfl, rfl⟩)] | rw [s_cnd (by simp [lk, keepEnv, Od.v, c, z1, hF, hx1, hx, e29, e24, hb, hb2, hC, a7, a7', k0, k0', hgg, pl, hpe, ldx]; exact rfl)] | rw [cnd_t] | rw [cnd_f] | rw [s_skip] | rw [s_ret] | rw [s_exit] | rw [C_ret] | rw [C_exit] | rw [C_skip] | rw [blk_ret] | rw [blk_norm] | rw [blk_exit] | rw [blk_exit' (by decide)] | rw [blkT_ret] | rw [blkT_norm] | rw [blkT_exit] | rw [blkT_exit' (by decide)] | rw [s_blk] | rw [s_reg (by simp [go_sem, c, z1, hF, hx1, hx, e29, e24, hb, hb2, hC, a7, a7', k0, k0', hgg, pl, hpe, ldx]; exact ⟨rfl, rfl⟩)] | rw [t_cnd (by simp [lk, keepEnv, Od.v, c, z1, hF, hx1, hx, e29, e24, hb, hb2, hC, a7, a7', k0, k0', hgg, pl, hpe, ldx]; exact rfl)] | rw [t_blk]))
        simp [keepEnv, lk, DV.cells]
  · rw [n0] at e29
    have a7' : (x.ask != 7) = false := by simpa using a7
    cases hg : getI s.cols x.col with
    | none =>
      have hv : nodeV s i x = 3 := by simp [nodeV, n0, hg]
      rw [hv, if_neg (by omega)]
      have hh : hasV s x.col = false := by
        unfold getI at hg
        unfold hasV
        by_cases c1 : 0 ≤ x.col
        · rw [if_pos c1] at hg
          have := List.getElem?_eq_none_iff.1 hg
          have : ¬ x.col < (s.cols.length : Int) := by omega
          simp [this]
        · simp [c1]
      rw [hh] at e24
      obtain ⟨ask, col, ⟨vk, vn, vs', vt⟩, xa, xb⟩ := x
      obtain ⟨cols, k1, k2, k3, k4⟩ := s
      simp only [N.d, V.d, schD, schC] at *
      clear hv n0 e42a e42b hg hh
      unfold lp20_0
      (repeat (first | rw [s_assoc] | rw [s_seq_reg (by simp [go_sem, c, z1, hF, hx1, hx, e29, e24, hb, hb2, ldx]; exact ⟨rfl, rfl⟩)] | rw [s_cnd (by simp [lk, keepEnv, Od.v, c, z1, hF, hx1, hx, e29, e24, hb, hb2, ldx]; exact rfl)] | rw [cnd_t] | rw [cnd_f] | rw [s_skip] | rw [s_ret] | rw [s_exit] | rw [C_ret] | rw [C_exit] | rw [C_skip] | rw [blk_ret] | rw [blk_norm] | rw [blk_exit] | rw [blk_exit' (by decide)] | rw [blkT_ret] | rw [blkT_norm] | rw [blkT_exit] | rw [blkT_exit' (by decide)] | rw [s_blk] | rw [s_reg (by simp [go_sem, c, z1, hF, hx1, hx, e29, e24, hb, hb2, ldx]; exact ⟨rfl, rfl⟩)] | rw [t_cnd (by simp [lk, keepEnv, Od.v, c, z1, hF, hx1, hx, e29, e24, hb, hb2, ldx]; exact rfl)] | rw [t_blk]))
      simp [keepEnv, lk, DV.cells]
    | some cl =>
      have hgg := hg
      unfold getI at hgg
      split at hgg
      case isFalse => cases hgg
      rename_i p0
      have hlt := (List.getElem?_eq_some_iff.1 hgg).1
      have hh : hasV s x.col = true := by
        unfold hasV
        have : x.col < (s.cols.length : Int) := by omega
        simp [p0, this]
      rw [hh] at e24
      have hv : nodeV s i x = 0 := by
        have n0 := n0
        rw [a7] at n0
        simp [nodeV, n0, hg, a7]
      rw [hv, if_pos rfl]
      obtain ⟨ask, col, ⟨vk, vn, vs', vt⟩, xa, xb⟩ := x
      obtain ⟨cols, k1, k2, k3, k4⟩ := s
      simp only [N.d, V.d, schD, schC] at *
      subst a7
      clear hv n0 e42a e42b hg hh hgg
      unfold lp20_0
      (repeat (first | rw [s_assoc] | rw [s_seq_reg (by simp [go_sem, c, z1, hF, hx1, hx, e29, e24, hb, hb2, a7', ldx]; exact ⟨rfl, rfl⟩)] | rw [s_cnd (by simp [lk, keepEnv, Od.v, c, z1, hF, hx1, hx, e29, e24, hb, hb2, a7', ldx]; exact rfl)] | rw [cnd_t] | rw [cnd_f] | rw [s_skip] | rw [s_ret] | rw [s_exit] | rw [C_ret] | rw [C_exit] | rw [C_skip] | rw [blk_ret] | rw [blk_norm] | rw [blk_exit] | rw [blk_exit' (by decide)] | rw [blkT_ret] | rw [blkT_norm] | rw [blkT_exit] | rw [blkT_exit' (by decide)] | rw [s_blk] | rw [s_reg (by simp [go_sem, c, z1, hF, hx1, hx, e29, e24, hb, hb2, a7', ldx]; exact ⟨rfl, rfl⟩)] | rw [t_cnd (by simp [lk, keepEnv, Od.v, c, z1, hF, hx1, hx, e29, e24, hb, hb2, a7', ldx]; exact rfl)] | rw [t_blk]))
      simp [keepEnv, lk, DV.cells]
  · rw [n0] at e29
    cases ha : ahV i x.a
    · have hv : nodeV s i x = 5 := by simp [nodeV, n0, ha]
      rw [hv, if_neg (by omega)]
      rw [ha] at e42a
      obtain ⟨ask, col, ⟨vk, vn, vs', vt⟩, xa, xb⟩ := x
      obtain ⟨cols, k1, k2, k3, k4⟩ := s
      simp only [N.d, V.d, schD, schC] at *
      clear hv n0
      unfold lp20_0
      (repeat (first | rw [s_assoc] | rw [s_seq_reg (by simp [go_sem, c, z1, hF, hx1, hx, e29, e42a, hb, hb2, ldx]; exact ⟨rfl, rfl⟩)] | rw [s_cnd (by simp [lk, keepEnv, Od.v, c, z1, hF, hx1, hx, e29, e42a, hb, hb2, ldx]; exact rfl)] | rw [cnd_t] | rw [cnd_f] | rw [s_skip] | rw [s_ret] | rw [s_exit] | rw [C_ret] | rw [C_exit] | rw [C_skip] | rw [blk_ret] | rw [blk_norm] | rw [blk_exit] | rw [blk_exit' (by decide)] | rw [blkT_ret] | rw [blkT_norm] | rw [blkT_exit] | rw [blkT_exit' (by decide)] | rw [s_blk] | rw [s_reg (by simp [go_sem, c, z1, hF, hx1, hx, e29, e42a, hb, hb2, ldx]; exact ⟨rfl, rfl⟩)] | rw [t_cnd (by simp [lk, keepEnv, Od.v, c, z1, hF, hx1, hx, e29, e42a, hb, hb2, ldx]; exact rfl)] | rw [t_blk]))
      simp [keepEnv, lk, DV.cells]
    · rw [ha] at e42a
      cases hbb : ahV i x.b
      · have hv : nodeV s i x = 5 := by simp [nodeV, n0, hbb]
        rw [hv, if_neg (by omega)]
        rw [hbb] at e42b
        obtain ⟨ask, col, ⟨vk, vn, vs', vt⟩, xa, xb⟩ := x
        obtain ⟨cols, k1, k2, k3, k4⟩ := s
        simp only [N.d, V.d, schD, schC] at *
        clear hv n0
        unfold lp20_0
        (repeat (first | rw [s_assoc] | rw [s_seq_reg (by simp [go_sem, c, z1, hF, hx1, hx, e29, e42a, e42b, hb, hb2, ldx]; exact ⟨rfl, rfl⟩)] | rw [s_cnd (by simp [lk, keepEnv, Od.v, c, z1, hF, hx1, hx, e29, e42a, e42b, hb, hb2, ldx]; exact rfl)] | rw [cnd_t] | rw [cnd_f] | rw [s_skip] | rw [s_ret] | rw [s_exit] | rw [C_ret] | rw [C_exit] | rw [C_skip] | rw [blk_ret] | rw [blk_norm] | rw [blk_exit] | rw [blk_exit' (by decide)] | rw [blkT_ret] | rw [blkT_norm] | rw [blkT_exit] | rw [blkT_exit' (by decide)] | rw [s_blk] | rw [s_reg (by simp [go_sem, c, z1, hF, hx1, hx, e29, e42a, e42b, hb, hb2, ldx]; exact ⟨rfl, rfl⟩)] | rw [t_cnd (by simp [lk, keepEnv, Od.v, c, z1, hF, hx1, hx, e29, e42a, e42b, hb, hb2, ldx]; exact rfl)] | rw [t_blk]))
        simp [keepEnv, lk, DV.cells]
      · have hv : nodeV s i x = 0 := by simp [nodeV, n0, ha, hbb]
        rw [hv, if_pos rfl]
        rw [hbb] at e42b
        obtain ⟨ask, col, ⟨vk, vn, vs', vt⟩, xa, xb⟩ := x
        obtain ⟨cols, k1, k2, k3, k4⟩ := s
        simp only [N.d, V.d, schD, schC] at *
        clear hv n0
        unfold lp20_0
        (repeat (first | rw [s_assoc] | rw [s_seq_reg (by simp [go_sem, c, z1, hF, hx1, hx, e29, e42a, e42b, hb, hb2, ldx]; exact ⟨rfl, rfl⟩)] | rw [s_cnd (by simp [lk, keepEnv, Od.v, c, z1, hF, hx1, hx, e29, e42a, e42b, hb, hb2, ldx]; exact rfl)] | rw [cnd_t] | rw [cnd_f] | rw [s_skip] | rw [s_ret] | rw [s_exit] | rw [C_ret] | rw [C_exit] | rw [C_skip] | rw [blk_ret] | rw [blk_norm] | rw [blk_exit] | rw [blk_exit' (by decide)] | rw [blkT_ret] | rw [blkT_norm] | rw [blkT_exit] | rw [blkT_exit' (by decide)] | rw [s_blk] | rw [s_reg (by simp [go_sem, c, z1, hF, hx1, hx, e29, e42a, e42b, hb, hb2, ldx]; exact ⟨rfl, rfl⟩)] | rw [t_cnd (by simp [lk, keepEnv, Od.v, c, z1, hF, hx1, hx, e29, e42a, e42b, hb, hb2, ldx]; exact rfl)] | rw [t_blk]))
        simp [keepEnv, lk, DV.cells]
  · rw [n0] at e29
    cases ha : ahV i x.a
    · have hv : nodeV s i x = 5 := by simp [nodeV, n0, ha]
      rw [hv, if_neg (by omega)]
      rw [ha] at e42a
      obtain ⟨ask, col, ⟨vk, vn, vs', vt⟩, xa, xb⟩ := x
      obtain ⟨cols, k1, k2, k3, k4⟩ := s
      simp only [N.d, V.d, schD, schC] at *
      clear hv n0
      unfold lp20_0
      (repeat (first | rw [s_assoc] | rw [s_seq_reg (by simp [go_sem, c, z1, hF, hx1, hx, e29, e42a, hb, hb2, ldx]; exact ⟨rfl, rfl⟩)] | rw [s_cnd (by simp [lk, keepEnv, Od.v, c, z1, hF, hx1, hx, e29, e42a, hb, hb2, ldx]; exact rfl)] | rw [cnd_t] | rw [cnd_f] | rw [s_skip] | rw [s_ret] | rw [s_exit] | rw [C_ret] | rw [C_exit] | rw [C_skip] | rw [blk_ret] | rw [blk_norm] | rw [blk_exit] | rw [blk_exit' (by decide)] | rw [blkT_ret] | rw [blkT_norm] | rw [blkT_exit] | rw [blkT_exit' (by decide)] | rw [s_blk] | rw [s_reg (by simp [go_sem, c, z1, hF, hx1, hx, e29, e42a, hb, hb2, ldx]; exact ⟨rfl, rfl⟩)] | rw [t_cnd (by simp [lk, keepEnv, Od.v, c, z1, hF, hx1, hx, e29, e42a, hb, hb2, ldx]; exact rfl)] | rw [t_blk]))
      simp [keepEnv, lk, DV.cells]
    · have hv : nodeV s i x = 0 := by simp [nodeV, n0, ha]
      rw [hv, if_pos rfl]
      rw [ha] at e42a
      obtain ⟨ask, col, ⟨vk, vn, vs', vt⟩, xa, xb⟩ := x
      obtain ⟨cols, k1, k2, k3, k4⟩ := s
      simp only [N.d, V.d, schD, schC] at *
      clear hv n0
      unfold lp20_0
      (repeat (first | rw [s_assoc] | rw [s_seq_reg (by simp [go_sem, c, z1, hF, hx1, hx, e29, e42a, hb, hb2, ldx]; exact ⟨rfl, rfl⟩)] | rw [s_cnd (by simp [lk, keepEnv, Od.v, c, z1, hF, hx1, hx, e29, e42a, hb, hb2, ldx]; exact rfl)] | rw [cnd_t] | rw [cnd_f] | rw [s_skip] | rw [s_ret] | rw [s_exit] | rw [C_ret] | rw [C_exit] | rw [C_skip] | rw [blk_ret] | rw [blk_norm] | rw [blk_exit] | rw [blk_exit' (by decide)] | rw [blkT_ret] | rw [blkT_norm] | rw [blkT_exit] | rw [blkT_exit' (by decide)] | rw [s_blk] | rw [s_reg (by simp [go_sem, c, z1, hF, hx1, hx, e29, e42a, hb, hb2, ldx]; exact ⟨rfl, rfl⟩)] | rw [t_cnd (by simp [lk, keepEnv, Od.v, c, z1, hF, hx1, hx, e29, e42a, hb, hb2, ldx]; exact rfl)] | rw [t_blk]))
      simp [keepEnv, lk, DV.cells]
  · rw [n0] at e29
    have hv : nodeV s i x = 1 := by simp [nodeV, n0]
    rw [hv, if_neg (by omega)]
    obtain ⟨ask, col, ⟨vk, vn, vs', vt⟩, xa, xb⟩ := x
    obtain ⟨cols, k1, k2, k3, k4⟩ := s
    simp only [N.d, V.d, schD, schC] at *
    clear hv n0
    unfold lp20_0
    (repeat (first | rw [s_assoc] | rw [s_seq_reg (by simp [go_sem, c, z1, hF, hx1, hx, e29, hb, hb2, ldx]; exact ⟨rfl, rfl⟩)] | rw [s_cnd (by simp [lk, keepEnv, Od.v, c, z1, hF, hx1, hx, e29, hb, hb2, ldx]; exact rfl)] | rw [cnd_t] | rw [cnd_f] | rw [s_skip] | rw [s_ret] | rw [s_exit] | rw [C_ret] | rw [C_exit] | rw [C_skip] | rw [blk_ret] | rw [blk_norm] | rw [blk_exit] | rw [blk_exit' (by decide)] | rw [blkT_ret] | rw [blkT_norm] | rw [blkT_exit] | rw [blkT_exit' (by decide)] | rw [s_blk] | rw [s_reg (by simp [go_sem, c, z1, hF, hx1, hx, e29, hb, hb2, ldx]; exact ⟨rfl, rfl⟩)] | rw [t_cnd (by simp [lk, keepEnv, Od.v, c, z1, hF, hx1, hx, e29, hb, hb2, ldx]; exact rfl)] | rw [t_blk]))
    simp [keepEnv, lk, DV.cells]
theorem loop20 {Cd F : DV} {s : Sch} {b : Nat} {xs : List N} (hC : ∀ g, vw g 3 Cd = some (s.cols.map Cl.d)) (hl : xs.length ≤ 1000000) :
    ∀ (k i : Nat) (h : Heap), xs.length - i ≤ k → i ≤ xs.length → h[b]? = some (.box 24 (schC Cd s)) → vw h 8 F = some (xs.map N.d) → ∃ en G, C X (.loop lp20_0) [(2, .ref b 0), (5, .int .i64 0), (9, F), (10, .int .i64 xs.length), (11, .int .i64 i)] h = some (.exit 0, en, h ++ G) ∧ lk en 5 = .int .i64 (filtV s (xs.drop i) i) := by
  intro k
  induction k with
  | zero =>
    intro i h hk hi hb hF
    obtain rfl : i = xs.length := by omega
    refine ⟨[(2, .ref b 0), (5, .int .i64 0), (9, F), (10, .int .i64 xs.length), (11, .int .i64 xs.length), (12, .bool false)], [], ?_, by simp [lk, filtV]⟩
    rw [t_loop]
    unfold lp20_0
    (repeat (first | rw [s_assoc] | rw [s_seq_reg (by simp [go_sem]; exact ⟨rfl, rfl⟩)] | rw [s_cnd (by simp [lk, keepEnv, Od.v]; exact rfl)] | rw [cnd_t] | rw [cnd_f] | rw [s_skip] | rw [s_ret] | rw [s_exit] | rw [C_ret] | rw [C_exit] | rw [C_skip] | rw [blk_ret] | rw [blk_norm] | rw [blk_exit] | rw [blk_exit' (by decide)] | rw [blkT_ret] | rw [blkT_norm] | rw [blkT_exit] | rw [blkT_exit' (by decide)] | rw [s_blk] | rw [s_reg (by simp [go_sem]; exact ⟨rfl, rfl⟩)] | rw [t_cnd (by simp [lk, keepEnv, Od.v]; exact rfl)] | rw [t_blk]))
    rw [lp_exit]
    simp [keepEnv, lk]
  | succ k ih =>
    intro i h hk hi hb hF
    by_cases c : i < xs.length
    · obtain ⟨I, hI⟩ : ∃ I, I = i + 1 := ⟨_, rfl⟩
      have z1 : IntKind.i64.wrap ((i : Int) + 1) = (I : Int) := (by rw [wrap64 _ (by omega) (by omega)]; omega)
      obtain ⟨x, hx⟩ : ∃ x, x = xs[i] := ⟨_, rfl⟩
      have hxi : xs[i]? = some x := by rw [hx]; exact List.getElem?_eq_getElem c
      have hd : xs.drop i = x :: xs.drop I := by rw [List.drop_eq_getElem_cons c, ← hx, hI]
      have hbd := body20 hC hb hF rfl hxi z1
      rw [hd, filtV, t_loop, hbd]
      by_cases h0 : nodeV s i x = 0
      · rw [if_pos h0, if_pos h0, lp_norm, ← hI]
        obtain ⟨en, G, h1, h2⟩ := ih I (h ++ [.box 3 [.int .i64 i], .box 41 x.d.cells]) (by omega) (by omega) (by rw [List.getElem?_append_left (List.getElem?_eq_some_iff.1 hb).1]; exact hb) (vw_grow hF)
        exact ⟨en, _, by rw [h1, List.append_assoc], h2⟩
      · rw [if_neg h0, if_neg h0, lp_exit]
        exact ⟨_, _, rfl, rfl⟩
    · exact ih i h (by omega) hi hb hF
theorem run20 {Cd F : DV} {s : Sch} {xs : List N} {H : Heap} (hC : ∀ g, vw g 3 Cd = some (s.cols.map Cl.d)) (hF : ∀ G, vw (H ++ G) 8 F = some (xs.map N.d)) (hl : xs.length ≤ 1000000) : E X 20 [schD Cd s, F] H = some (.int .i64 (filtV s xs 0), H) := by
  obtain ⟨en, G, hc, he⟩ := loop20 (b := H.length) hC hl xs.length 0 (H ++ [.box 24 (schC Cd s)]) (by omega) (by omega) (by simp) (hF _)
  rw [List.drop_zero] at he
  rw [show ((0 : Nat) : Int) = 0 from rfl] at hc
  have hF1 := hF [.box 24 (schC Cd s)]
  rw [E_go (X := X) _ b20 _ rfl rfl]; unfold b20
  generalize filtV s xs 0 = r at *
  obtain ⟨cols, k1, k2, k3, k4⟩ := s
  simp only [schD, schC] at *
  (repeat (first | rw [s_assoc] | rw [s_seq_reg (by simp [go_sem, hF1]; exact ⟨rfl, rfl⟩)] | rw [s_cnd (by simp [lk, keepEnv, Od.v, hF1]; exact rfl)] | rw [cnd_t] | rw [cnd_f] | rw [s_skip] | rw [s_ret] | rw [s_exit] | rw [C_ret] | rw [C_exit] | rw [C_skip] | rw [blk_ret] | rw [blk_norm] | rw [blk_exit] | rw [blk_exit' (by decide)] | rw [blkT_ret] | rw [blkT_norm] | rw [blkT_exit] | rw [blkT_exit' (by decide)] | rw [s_blk] | rw [s_reg (by simp [go_sem, hF1]; exact ⟨rfl, rfl⟩)] | rw [t_cnd (by simp [lk, keepEnv, Od.v, hF1]; exact rfl)] | rw [t_blk]))
  (try simp only [keepEnv, List.map_cons, List.map_nil, lk, reduceIte, Nat.reduceEqDiff, Nat.zero_ne_one, Nat.one_ne_zero])
  rw [hc]
  (repeat (first | rw [s_assoc] | rw [s_seq_reg (by simp [go_sem, he]; exact ⟨rfl, rfl⟩)] | rw [s_cnd (by simp [lk, keepEnv, Od.v, he]; exact rfl)] | rw [cnd_t] | rw [cnd_f] | rw [s_skip] | rw [s_ret] | rw [s_exit] | rw [C_ret] | rw [C_exit] | rw [C_skip] | rw [blk_ret] | rw [blk_norm] | rw [blk_exit] | rw [blk_exit' (by decide)] | rw [blkT_ret] | rw [blkT_norm] | rw [blkT_exit] | rw [blkT_exit' (by decide)] | rw [s_blk] | rw [s_reg (by simp [go_sem, he]; exact ⟨rfl, rfl⟩)] | rw [t_cnd (by simp [lk, keepEnv, Od.v, he]; exact rfl)] | rw [t_blk]))
  simp [ends_ret, ends_norm, resL, go_sem, fin, fz0, fz1, fzT, fzL, nlt, he]
end Go.Proofs.YtobpbjmnonbblaaDoor
