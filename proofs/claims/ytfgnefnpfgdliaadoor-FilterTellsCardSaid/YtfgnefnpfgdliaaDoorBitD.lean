/- Ideal runs: the set of some numbers. -/
import Derived.Test.YtfgnefnpfgdliaaDoorBitC
namespace Go.Proofs.YtfgnefnpfgdliaaDoor
set_option linter.unusedVariables false
set_option linter.unusedSimpArgs false
set_option maxRecDepth 10000
/-- Words with a number put in. -/
def padW (ws : List Nat) (n : Nat) : List Nat := ws ++ List.replicate (n - ws.length) 0
def putW (ws : List Nat) (i : Nat) : List Nat := (padW ws (i / 64 + 1)).set (i / 64) (at_ (padW ws (i / 64 + 1)) (i / 64) ||| 2 ^ (i % 64))
theorem padW_len (ws : List Nat) (n : Nat) : (padW ws n).length = max ws.length n := by simp [padW]; omega
theorem putW_len (ws : List Nat) (i : Nat) : (putW ws i).length = max ws.length (i / 64 + 1) := by simp [putW, padW_len]
theorem padW_le {ws : List Nat} {n : Nat} (h : n ≤ ws.length) : padW ws n = ws := by simp [padW, show n - ws.length = 0 by omega]
theorem padW_step {ws : List Nat} {n : Nat} (h : ws.length < n) : padW (ws ++ [0]) n = padW ws n := by
  simp only [padW, List.length_append, List.length_cons, List.length_nil, List.append_assoc]
  rw [show n - ws.length = (n - (ws.length + (0 + 1))) + 1 by omega, List.replicate_succ]
  rfl
theorem or_p {a j : Nat} (ha : a < 18446744073709551616) (hj : j < 64) : IntKind.u64.wrap ((a % 2 ^ IntKind.u64.bits ||| 2 ^ j % 2 ^ IntKind.u64.bits : Nat) : Int) = ((a ||| 2 ^ j : Nat) : Int) :=
  or_n ha (Nat.pow_lt_pow_right (by omega : 1 < 2) hj)
/-- Where words lie that are made. -/
def MadeW (h : Heap) (H : Heap) (w : DV) (ws : List Nat) : Prop := (w = .nils ∧ ws = [] ∧ h = H) ∨ ∃ g, w = .row H.length g 0 ws.length false ∧ h = H ++ [.row 77 1 g (ws.map uD)]
theorem MadeW.vw {h H : Heap} {w : DV} {ws : List Nat} (hm : MadeW h H w ws) : vw h 1 w = some (ws.map uD) := by
  rcases hm with ⟨rfl, rfl, rfl⟩ | ⟨g, rfl, rfl⟩
  · rfl
  · simp [Go.Proofs.YtfgnefnpfgdliaaDoor.vw, hget0, List.take_of_length_le]
theorem MadeW.app {h H : Heap} {w : DV} {ws : List Nat} (hm : MadeW h H w ws) (hb : ws.length ≤ 1000000) (x : Nat) : ∃ w' h', appx h 77 1 8 w (ws.map uD) [uD x] = some (w', h') ∧ MadeW h' H w' (ws ++ [x]) := by
  have hle : ((ws.map uD).length + [uD x].length) * 8 ≤ 140737488355328 := by simp; omega
  rcases hm with ⟨rfl, rfl, rfl⟩ | ⟨g, rfl, rfl⟩
  · exact ⟨_, _, by simp [appx], .inr ⟨0, rfl, rfl⟩⟩
  · refine ⟨.row H.length (g + 1) 0 (ws.length + 1) false, H ++ [.row 77 1 (g + 1) ((ws ++ [x]).map uD)], ?_, .inr ⟨g + 1, by simp, rfl⟩⟩
    simp only [appx, if_pos hle, hget0]
    simp [hset0]
theorem loop43 {H : Heap} (i : Nat) (hi : i < 65536) : ∀ (m : Nat) (w : DV) (ws : List Nat) (h : Heap), i / 64 + 1 - ws.length ≤ m → ws.length ≤ 100000 → MadeW h H w ws →
      ∃ w' ex h', C X (.loop lp43_0) [(0, w), (1, .int .i64 i)] h = some (.exit 0, (0, w') :: (1, .int .i64 i) :: ex, h') ∧ MadeW h' H w' (padW ws (i / 64 + 1)) := by
  intro m
  obtain ⟨k, hk⟩ : ∃ k, k = i / 64 := ⟨_, rfl⟩
  have w1 : IntKind.i64.wrap ((i : Int) / 64) = (k : Int) := (by rw [wrap64 _ (by omega) (by omega)]; omega)
  induction m with
  | zero =>
    intro w ws h hm hb hM
    have hv := hM.vw
    have c1 : ¬ ws.length ≤ k := by omega
    refine ⟨w, [(9, .bool false)], h, ?_, by rw [padW_le (by omega)]; exact hM⟩
    rw [t_loop]
    unfold lp43_0
    (repeat (first | rw [s_assoc] | rw [s_seq_reg (by simp [evOps, evOp_n, evOp_r, evOp_d, evOp_dr, kpo_refl, kpo_app, cnd_some, cnd_pair, cnd_cnd_t, cnd_cnd_f, cnd_same, cnd_dvb, cnd_and, cnd_or, ↓evx_pick, gd_bool, gd_boolf, gd_tup, cnd_t, cnd_f, evTo, isCall, evx, put, lk, Od.v, keepEnv, enterEnv, ldx_ref, rdc, binx, binI, binS, unx, eqk, DV.isU, DV.cells, hget, hget0, hset, hset0, stx_ref, splice, DV.one, fillp, mat, eqcs, eqs, hv, w1, c1]; exact ⟨rfl, rfl⟩)] | rw [s_cnd (by simp [lk, keepEnv, Od.v, hv, w1, c1]; exact rfl)] | rw [cnd_t] | rw [cnd_f] | rw [s_skip] | rw [s_ret] | rw [s_exit] | rw [C_ret] | rw [C_exit] | rw [C_skip] | rw [blk_ret] | rw [blk_norm] | rw [blk_exit] | rw [blk_exit' (by decide)] | rw [blkT_ret] | rw [blkT_norm] | rw [blkT_exit] | rw [blkT_exit' (by decide)] | rw [s_blk] | rw [s_reg (by simp [evOps, evOp_n, evOp_r, evOp_d, evOp_dr, kpo_refl, kpo_app, cnd_some, cnd_pair, cnd_cnd_t, cnd_cnd_f, cnd_same, cnd_dvb, cnd_and, cnd_or, ↓evx_pick, gd_bool, gd_boolf, gd_tup, cnd_t, cnd_f, evTo, isCall, evx, put, lk, Od.v, keepEnv, enterEnv, ldx_ref, rdc, binx, binI, binS, unx, eqk, DV.isU, DV.cells, hget, hget0, hset, hset0, stx_ref, splice, DV.one, fillp, mat, eqcs, eqs, hv, w1, c1]; exact ⟨rfl, rfl⟩)] | rw [t_cnd (by simp [lk, keepEnv, Od.v, hv, w1, c1]; exact rfl)] | rw [t_blk]))
    rw [lp_exit]
    simp [keepEnv, lk]
  | succ m ih =>
    intro w ws h hm hb hM
    by_cases c1 : ws.length ≤ k
    · obtain ⟨w', h', ha, hM'⟩ := hM.app (by omega) 0
      have hv := hM.vw
      have hs : C X lp43_0 [(0, w), (1, .int .i64 i)] h = some (.norm, [(0, w'), (1, .int .i64 i)], h') := by
        unfold lp43_0
        have z1 : vw h 1 (.list 1 [.int .u64 0] true) = some [.int .u64 0] := rfl
        have z2 : srcOf h 1 (.list 1 [.int .u64 0] true) = some [.int .u64 0] := rfl
        have z5 : ∀ h, eltL [.int .u64 0] h = some ([.int .u64 0], h) := fun _ => rfl
        rw [show uD 0 = .int .u64 0 from rfl] at ha
        have z3 : Wc 1 (.int .u64 0) := by simp [Wc, DV.cells, DV.one]
        have z4 : Nr (.int .u64 0) := .int _ _
        (repeat (first | rw [s_assoc] | rw [s_seq_reg (by simp [evOps, evOp_n, evOp_r, evOp_d, evOp_dr, kpo_refl, kpo_app, cnd_some, cnd_pair, cnd_cnd_t, cnd_cnd_f, cnd_same, cnd_dvb, cnd_and, cnd_or, ↓evx_pick, gd_bool, gd_boolf, gd_tup, cnd_t, cnd_f, evTo, isCall, evx, put, lk, Od.v, keepEnv, enterEnv, ldx_ref, rdc, binx, binI, binS, unx, eqk, DV.isU, DV.cells, hget, hget0, hset, hset0, stx_ref, splice, DV.one, fillp, mat, eqcs, eqs, hv, w1, c1, ha, z1, z2, z3, z4, z5]; exact ⟨rfl, rfl⟩)] | rw [s_cnd (by simp [lk, keepEnv, Od.v, hv, w1, c1, ha, z1, z2, z3, z4, z5]; exact rfl)] | rw [cnd_t] | rw [cnd_f] | rw [s_skip] | rw [s_ret] | rw [s_exit] | rw [C_ret] | rw [C_exit] | rw [C_skip] | rw [blk_ret] | rw [blk_norm] | rw [blk_exit] | rw [blk_exit' (by decide)] | rw [blkT_ret] | rw [blkT_norm] | rw [blkT_exit] | rw [blkT_exit' (by decide)] | rw [s_blk] | rw [s_reg (by simp [evOps, evOp_n, evOp_r, evOp_d, evOp_dr, kpo_refl, kpo_app, cnd_some, cnd_pair, cnd_cnd_t, cnd_cnd_f, cnd_same, cnd_dvb, cnd_and, cnd_or, ↓evx_pick, gd_bool, gd_boolf, gd_tup, cnd_t, cnd_f, evTo, isCall, evx, put, lk, Od.v, keepEnv, enterEnv, ldx_ref, rdc, binx, binI, binS, unx, eqk, DV.isU, DV.cells, hget, hget0, hset, hset0, stx_ref, splice, DV.one, fillp, mat, eqcs, eqs, hv, w1, c1, ha, z1, z2, z3, z4, z5]; exact ⟨rfl, rfl⟩)] | rw [t_cnd (by simp [lk, keepEnv, Od.v, hv, w1, c1, ha, z1, z2, z3, z4, z5]; exact rfl)] | rw [t_blk]))
        simp [keepEnv, lk]
      rw [t_loop, hs, lp_norm]
      obtain ⟨w2, ex, h2, r1, r2⟩ := ih w' (ws ++ [0]) h' (by simp; omega) (by simp; omega) hM'
      exact ⟨w2, ex, h2, r1, by rw [← padW_step (by omega)]; exact r2⟩
    · exact ih w ws h (by omega) hb hM

theorem mw_wr {H : Heap} {g : Nat} {ws : List Nat} {n : Nat} (hn : ws.length = n) {i : Nat} (hi : i < n) (x : Nat) : stx (H ++ [.row 77 1 g (ws.map uD)]) 1 (.elem (.row H.length g 0 n false) 1 i 0) (.int .u64 x) = some (H ++ [.row 77 1 g ((ws.set i x).map uD)]) := by
  subst hn
  have h1 : (H ++ [HO.row 77 1 g (ws.map uD)])[H.length]? = some (.row 77 1 g (ws.map uD)) := by simp [hget0]
  have h2 : (ws.map uD)[i]? = some (uD ws[i]) := by simp [List.getElem?_eq_getElem hi]
  rw [stx, if_pos (by simp [DV.cells, DV.one])]
  simp only [h1]
  rw [if_pos (by simp [hi])]
  simp only [Nat.zero_add, h2]
  simp [eput, DV.one, hset0]
theorem body43 {H h : Heap} {w : DV} {ws : List Nat} (hM : MadeW h H w ws) (bw : WB ws) (i : Nat) (hi : i < 65536) (hb : ws.length ≤ 100000) :
    ∃ g, C X b43 [(0, w), (1, .int .i64 i)] h = some (.ret, [(4, .row H.length g 0 (putW ws i).length false)], H ++ [.row 77 1 g ((putW ws i).map uD)]) := by
  obtain ⟨w', ex, h', c1, hM'⟩ := loop43 (H := H) i hi (i / 64 + 1) w ws h (by omega) hb hM
  have bp : WB (padW ws (i / 64 + 1)) := by
    intro x hx
    rcases List.mem_append.1 hx with hx | hx
    · exact bw x hx
    · rw [List.mem_replicate] at hx; omega
  have hpl := padW_len ws (i / 64 + 1)
  have hpu : putW ws i = (padW ws (i / 64 + 1)).set (i / 64) (at_ (padW ws (i / 64 + 1)) (i / 64) ||| 2 ^ (i % 64)) := rfl
  rw [hpu]
  generalize padW ws (i / 64 + 1) = us at *
  rcases hM' with ⟨_, hn, _⟩ | ⟨g, rfl, rfl⟩
  · subst hn; simp at hpl; omega
  obtain ⟨k, hk⟩ : ∃ k, k = i / 64 := ⟨_, rfl⟩
  obtain ⟨j, hj⟩ : ∃ j, j = i % 64 := ⟨_, rfl⟩
  have hj' : j < 64 := by omega
  have hk' : k < us.length := by omega
  rw [← hk, ← hj]
  have w1 : IntKind.i64.wrap ((i : Int) / 64) = (k : Int) := (by rw [wrap64 _ (by omega) (by omega)]; omega)
  have w2 : ((i : Int)).tmod 64 = (j : Int) := by rw [Int.tmod_eq_emod_of_nonneg (by omega)]; omega
  have w3 : IntKind.u64.wrap (2 ^ min j IntKind.u64.bits) = ((2 ^ j : Nat) : Int) := by
    have hPl : 2 ^ j < 18446744073709551616 := Nat.pow_lt_pow_right (by omega : 1 < 2) hj'
    rw [show min j IntKind.u64.bits = j from Nat.min_eq_left (by simp [IntKind.bits]; omega), show (2 : Int) ^ j = ((2 ^ j : Nat) : Int) by simp, wrapu, Nat.mod_eq_of_lt hPl]
  have w4 := or_p (bp.at k) hj'
  have d0 : ¬ (j : Int) < 0 := by omega
  have e1 : at_ us k = us[k] := by simp [at_, List.getD, List.getElem?_eq_getElem hk']
  have a2 := mw_wr (H := H) (g := g) (ws := us) rfl hk' (at_ us k ||| 2 ^ j)
  obtain ⟨P, hP⟩ : ∃ P, P = 2 ^ j := ⟨_, rfl⟩
  rw [← hP] at w3 w4 a2 ⊢
  have a1 : vw (H ++ [HO.row 77 1 g (us.map uD)]) 1 (.row H.length g 0 us.length false) = some (us.map uD) := by
    simp [vw, hget0, List.take_of_length_le]
  refine ⟨g, ?_⟩
  unfold lp43_0 at c1
  unfold b43
  (repeat (first | rw [s_assoc] | rw [s_seq_reg (by simp [evOps, evOp_n, evOp_r, evOp_d, evOp_dr, kpo_refl, kpo_app, cnd_some, cnd_pair, cnd_cnd_t, cnd_cnd_f, cnd_same, cnd_dvb, cnd_and, cnd_or, ↓evx_pick, gd_bool, gd_boolf, gd_tup, cnd_t, cnd_f, evTo, isCall, evx, put, lk, Od.v, keepEnv, enterEnv, ldx_ref, rdc, binx, binI, binS, unx, eqk, DV.isU, DV.cells, hget, hget0, hset, hset0, stx_ref, splice, DV.one, fillp, mat, eqcs, eqs, w1]; exact ⟨rfl, rfl⟩)] | rw [s_cnd (by simp [lk, keepEnv, Od.v, w1]; exact rfl)] | rw [cnd_t] | rw [cnd_f] | rw [s_skip] | rw [s_ret] | rw [s_exit] | rw [C_ret] | rw [C_exit] | rw [C_skip] | rw [blk_ret] | rw [blk_norm] | rw [blk_exit] | rw [blk_exit' (by decide)] | rw [blkT_ret] | rw [blkT_norm] | rw [blkT_exit] | rw [blkT_exit' (by decide)] | rw [s_blk] | rw [s_reg (by simp [evOps, evOp_n, evOp_r, evOp_d, evOp_dr, kpo_refl, kpo_app, cnd_some, cnd_pair, cnd_cnd_t, cnd_cnd_f, cnd_same, cnd_dvb, cnd_and, cnd_or, ↓evx_pick, gd_bool, gd_boolf, gd_tup, cnd_t, cnd_f, evTo, isCall, evx, put, lk, Od.v, keepEnv, enterEnv, ldx_ref, rdc, binx, binI, binS, unx, eqk, DV.isU, DV.cells, hget, hget0, hset, hset0, stx_ref, splice, DV.one, fillp, mat, eqcs, eqs, w1]; exact ⟨rfl, rfl⟩)] | rw [t_cnd (by simp [lk, keepEnv, Od.v, w1]; exact rfl)] | rw [t_blk]))
  (try simp only [keepEnv, List.map_cons, List.map_nil, lk, reduceIte, Nat.reduceEqDiff, Nat.zero_ne_one, Nat.one_ne_zero])
  rw [c1]
  rw [e1] at w4 a2 ⊢
  (repeat (first | rw [s_assoc] | rw [s_seq_reg (by simp [evOps, evOp_n, evOp_r, evOp_d, evOp_dr, kpo_refl, kpo_app, cnd_some, cnd_pair, cnd_cnd_t, cnd_cnd_f, cnd_same, cnd_dvb, cnd_and, cnd_or, ↓evx_pick, gd_bool, gd_boolf, gd_tup, cnd_t, cnd_f, evTo, isCall, evx, put, lk, Od.v, keepEnv, enterEnv, ldx_ref, rdc, binx, binI, binS, unx, eqk, DV.isU, DV.cells, hget, hget0, hset, hset0, stx_ref, splice, DV.one, fillp, mat, eqcs, eqs, w1, w2, w3, w4, d0, a1, a2, hk', ldx]; exact ⟨rfl, rfl⟩)] | rw [s_cnd (by simp [lk, keepEnv, Od.v, w1, w2, w3, w4, d0, a1, a2, hk', ldx]; exact rfl)] | rw [cnd_t] | rw [cnd_f] | rw [s_skip] | rw [s_ret] | rw [s_exit] | rw [C_ret] | rw [C_exit] | rw [C_skip] | rw [blk_ret] | rw [blk_norm] | rw [blk_exit] | rw [blk_exit' (by decide)] | rw [blkT_ret] | rw [blkT_norm] | rw [blkT_exit] | rw [blkT_exit' (by decide)] | rw [s_blk] | rw [s_reg (by simp [evOps, evOp_n, evOp_r, evOp_d, evOp_dr, kpo_refl, kpo_app, cnd_some, cnd_pair, cnd_cnd_t, cnd_cnd_f, cnd_same, cnd_dvb, cnd_and, cnd_or, ↓evx_pick, gd_bool, gd_boolf, gd_tup, cnd_t, cnd_f, evTo, isCall, evx, put, lk, Od.v, keepEnv, enterEnv, ldx_ref, rdc, binx, binI, binS, unx, eqk, DV.isU, DV.cells, hget, hget0, hset, hset0, stx_ref, splice, DV.one, fillp, mat, eqcs, eqs, w1, w2, w3, w4, d0, a1, a2, hk', ldx]; exact ⟨rfl, rfl⟩)] | rw [t_cnd (by simp [lk, keepEnv, Od.v, w1, w2, w3, w4, d0, a1, a2, hk', ldx]; exact rfl)] | rw [t_blk]))
  simp [keepEnv, lk]
theorem run43a (i : Nat) (hi : i < 65536) (H : Heap) : E X 43 [.nils, .int .i64 i] H = some (.fresh 77 1 ((putW [] i).map uD), H) := by
  obtain ⟨g, c⟩ := body43 (H := H) (h := H) (w := .nils) (ws := []) (.inl ⟨rfl, rfl, rfl⟩) (by intro x hx; cases hx) i hi (by simp)
  rw [E_go (X := X) _ b43 _ rfl rfl]
  simp only [enterEnv]
  rw [c, ends_ret]
  simp only [resL, lk, Option.map_some, reduceIte, Option.some.injEq]
  simp only [fin]
  rw [if_pos List.take_left]
  have q1 : ∀ y ∈ (putW [] i).map uD, Nr y := by intro y hy; obtain ⟨z, _, rfl⟩ := List.mem_map.1 hy; exact .int _ _
  simp only [fz1, fz0]
  rw [if_neg (by omega), hget0]
  simp only [List.getElem?_cons_zero]
  rw [if_pos ⟨rfl, by simp, q1⟩, if_pos (by simp)]
theorem run43b {ws : List Nat} {g : Nat} (bw : WB ws) (i : Nat) (hi : i < 65536) (hb : ws.length ≤ 100000) (H : Heap) : ∃ g', E X 43 [.row H.length g 0 ws.length false, .int .i64 i] (H ++ [.row 77 1 g (ws.map uD)]) =
    some (.row H.length g' 0 (putW ws i).length false, H ++ [.row 77 1 g' ((putW ws i).map uD)]) := by
  obtain ⟨g', c⟩ := body43 (H := H) (h := H ++ [.row 77 1 g (ws.map uD)]) (w := .row H.length g 0 ws.length false) (ws := ws) (.inr ⟨g, rfl, rfl⟩) bw i hi hb
  refine ⟨g', ?_⟩
  rw [E_go (X := X) _ b43 _ rfl rfl]
  simp only [enterEnv]
  rw [c, ends_ret]
  simp only [resL, lk, Option.map_some, reduceIte, Option.some.injEq]
  simp only [fin]
  split
  · rename_i ht
    rw [List.take_of_length_le (by simp)] at ht
    simp only [fz1, fz0]
    rw [if_pos (by simp)]
    simp [ht]
  · rfl
end Go.Proofs.YtfgnefnpfgdliaaDoor
