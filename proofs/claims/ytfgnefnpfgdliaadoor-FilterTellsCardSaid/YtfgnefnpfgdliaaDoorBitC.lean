/- Ideal runs: all but some; is a number in a set. -/
import Derived.Test.YtfgnefnpfgdliaaDoorBitB
namespace Go.Proofs.YtfgnefnpfgdliaaDoor
set_option linter.unusedVariables false
set_option linter.unusedSimpArgs false
set_option maxRecDepth 10000
def nw (a b : Nat) : Nat := a &&& (18446744073709551615 - b)
theorem not_n {a b : Nat} (ha : a < 18446744073709551616) (hb : b < 18446744073709551616) : IntKind.u64.wrap ((a % 2 ^ IntKind.u64.bits &&& 2 ^ IntKind.u64.bits - 1 - b % 2 ^ IntKind.u64.bits : Nat) : Int) = ((nw a b : Nat) : Int) := by
  rw [bits_u, Nat.mod_eq_of_lt ha, Nat.mod_eq_of_lt hb, wrapu]
  rw [Nat.mod_eq_of_lt (Nat.lt_of_le_of_lt Nat.and_le_left ha)]
  rfl
theorem run41 {h : Heap} {p q : Nat} {W T : DV} {ws ts : List Nat} (hp : h[p]? = some (.box 34 [W])) (hq : h[q]? = some (.box 34 [T])) (hW : WL W ws) (hT : WL T ts) (bw : WB ws) (bt : WB ts) {k : Nat} (h1 : k < ws.length) :
    E X 41 [.int .i64 k, .ref p 0, .ref q 0] h = some (uD (nw (at_ ws k) (at_ ts k)), h) := by
  have v1 := hW.vw
  have e2 := run36 hT k
  have e1 : at_ ws k = ws[k] := by simp [at_, List.getD, List.getElem?_eq_getElem h1]
  have a1 := not_n (bw.at k) (bt.at k)
  rw [e1] at a1
  rw [e1]
  rw [E_go (X := X) _ b41 _ rfl rfl]; unfold b41; (repeat (first | rw [s_assoc] | rw [s_seq_reg (by simp [evOps, evOp_n, evOp_r, evOp_d, evOp_dr, kpo_refl, kpo_app, cnd_some, cnd_pair, cnd_cnd_t, cnd_cnd_f, cnd_same, cnd_dvb, cnd_and, cnd_or, ↓evx_pick, gd_bool, gd_boolf, gd_tup, cnd_t, cnd_f, evTo, isCall, evx, put, lk, Od.v, keepEnv, enterEnv, ldx_ref, rdc, binx, binI, binS, unx, eqk, DV.isU, DV.cells, hget, hget0, hset, hset0, stx_ref, splice, DV.one, fillp, mat, eqcs, eqs, hp, hq, v1, e2, h1, ldx, a1]; exact ⟨rfl, rfl⟩)] | rw [s_cnd (by simp [lk, keepEnv, Od.v, hp, hq, v1, e2, h1, ldx, a1]; exact rfl)] | rw [cnd_t] | rw [cnd_f] | rw [s_skip] | rw [s_ret] | rw [s_exit] | rw [C_ret] | rw [C_exit] | rw [C_skip] | rw [blk_ret] | rw [blk_norm] | rw [blk_exit] | rw [blk_exit' (by decide)] | rw [blkT_ret] | rw [blkT_norm] | rw [blkT_exit] | rw [blkT_exit' (by decide)] | rw [s_blk] | rw [s_reg (by simp [evOps, evOp_n, evOp_r, evOp_d, evOp_dr, kpo_refl, kpo_app, cnd_some, cnd_pair, cnd_cnd_t, cnd_cnd_f, cnd_same, cnd_dvb, cnd_and, cnd_or, ↓evx_pick, gd_bool, gd_boolf, gd_tup, cnd_t, cnd_f, evTo, isCall, evx, put, lk, Od.v, keepEnv, enterEnv, ldx_ref, rdc, binx, binI, binS, unx, eqk, DV.isU, DV.cells, hget, hget0, hset, hset0, stx_ref, splice, DV.one, fillp, mat, eqcs, eqs, hp, hq, v1, e2, h1, ldx, a1]; exact ⟨rfl, rfl⟩)] | rw [t_cnd (by simp [lk, keepEnv, Od.v, hp, hq, v1, e2, h1, ldx, a1]; exact rfl)] | rw [t_blk])); simp [ends_ret, ends_norm, resL, evOps, evOp_n, evOp_r, evOp_d, evOp_dr, kpo_refl, kpo_app, cnd_some, cnd_pair, cnd_cnd_t, cnd_cnd_f, cnd_same, cnd_dvb, cnd_and, cnd_or, ↓evx_pick, gd_bool, gd_boolf, gd_tup, cnd_t, cnd_f, evTo, isCall, evx, put, lk, Od.v, keepEnv, enterEnv, ldx_ref, rdc, binx, binI, binS, unx, eqk, DV.isU, DV.cells, hget, hget0, hset, hset0, stx_ref, splice, DV.one, fillp, mat, eqcs, eqs, fin, fz0, fz1, fzT, fzL, nlt, hp, hq, v1, e2, h1, ldx, a1]
/-- The words of those below n that are not in a set. -/
def notW (ws : List Nat) (n : Nat) : List Nat := (List.range ((n + 63) / 64)).map fun k => nw (at_ (uptoW n) k) (at_ ws k)
theorem uptoW_len (n : Nat) : (uptoW n).length = (n + 63) / 64 := by simp [uptoW]
theorem run21 {W : DV} {ws : List Nat} (hW : WL W ws) (bw : WB ws) (n : Nat) (hn : n ≤ 65536) (H : Heap) : E X 21 [.agg [W], .int .i64 n] H = some (.agg [.list 1 ((notW ws n).map uD) false], H) := by
  have e0 := fun l => run40 n hn (H ++ l)
  have hlen := uptoW_len n
  have hu : WL (.list 1 ((uptoW n).map uD) false) (uptoW n) := .inl rfl
  have v1 := hu.vw
  have e1 := run37 (H := H ++ [HO.box 34 [W], HO.box 34 [.nils], HO.box 34 [.list 1 ((uptoW n).map uD) false]]) (f := 41) (n := (n + 63) / 64) (cap := [.ref (H.length + 2) 0, .ref H.length 0]) (word := fun k => nw (at_ (uptoW n) k) (at_ ws k)) (by omega) (fun k hk l => run41 (by simp [hget]) (by simp) hu hW (uptoW_WB n) bw (by rw [hlen]; exact hk))
  have hdef : notW ws n = (List.range ((n + 63) / 64)).map fun k => nw (at_ (uptoW n) k) (at_ ws k) := rfl
  rw [← hdef] at e1
  generalize notW ws n = us at e1 ⊢
  rw [← hlen] at e1
  generalize uptoW n = up at *
  rw [E_go (X := X) _ b21 _ rfl rfl]; unfold b21
  (repeat (first | rw [s_assoc] | rw [s_seq_reg (by simp [evOps, evOp_n, evOp_r, evOp_d, evOp_dr, kpo_refl, kpo_app, cnd_some, cnd_pair, cnd_cnd_t, cnd_cnd_f, cnd_same, cnd_dvb, cnd_and, cnd_or, ↓evx_pick, gd_bool, gd_boolf, gd_tup, cnd_t, cnd_f, evTo, isCall, evx, put, lk, Od.v, keepEnv, enterEnv, ldx_ref, rdc, binx, binI, binS, unx, eqk, DV.isU, DV.cells, hget, hget0, hset, hset0, stx_ref, splice, DV.one, fillp, mat, eqcs, eqs, e0, v1, e1]; exact ⟨rfl, rfl⟩)] | rw [s_cnd (by simp [lk, keepEnv, Od.v, e0, v1, e1]; exact rfl)] | rw [cnd_t] | rw [cnd_f] | rw [s_skip] | rw [s_ret] | rw [s_exit] | rw [C_ret] | rw [C_exit] | rw [C_skip] | rw [blk_ret] | rw [blk_norm] | rw [blk_exit] | rw [blk_exit' (by decide)] | rw [blkT_ret] | rw [blkT_norm] | rw [blkT_exit] | rw [blkT_exit' (by decide)] | rw [s_blk] | rw [s_reg (by simp [evOps, evOp_n, evOp_r, evOp_d, evOp_dr, kpo_refl, kpo_app, cnd_some, cnd_pair, cnd_cnd_t, cnd_cnd_f, cnd_same, cnd_dvb, cnd_and, cnd_or, ↓evx_pick, gd_bool, gd_boolf, gd_tup, cnd_t, cnd_f, evTo, isCall, evx, put, lk, Od.v, keepEnv, enterEnv, ldx_ref, rdc, binx, binI, binS, unx, eqk, DV.isU, DV.cells, hget, hget0, hset, hset0, stx_ref, splice, DV.one, fillp, mat, eqcs, eqs, e0, v1, e1]; exact ⟨rfl, rfl⟩)] | rw [t_cnd (by simp [lk, keepEnv, Od.v, e0, v1, e1]; exact rfl)] | rw [t_blk]))
  simp [ends_norm, ends_ret, resL, keepEnv, lk, ldx_ref, hget, hget0, hset, rdc]
  exact fin_set
/-- Is a number in a set? -/
def bit (ws : List Nat) (i : Nat) : Bool := (at_ ws (i / 64)).testBit (i % 64)
theorem run24 {W : DV} {ws : List Nat} (hW : WL W ws) (bw : WB ws) (i : Nat) (hi : i < 65536) (H : Heap) : E X 24 [.agg [W], .int .i64 i] H = some (.bool (bit ws i), H) := by
  obtain ⟨k, hk⟩ : ∃ k, k = i / 64 := ⟨_, rfl⟩
  obtain ⟨j, hj⟩ : ∃ j, j = i % 64 := ⟨_, rfl⟩
  have w1 : IntKind.i64.wrap ((i : Int) / 64) = (k : Int) := (by rw [wrap64 _ (by omega) (by omega)]; omega)
  have w2 : ((i : Int)).tmod 64 = (j : Int) := by rw [Int.tmod_eq_emod_of_nonneg (by omega)]; omega
  have e1 := fun l => run36 hW k (H ++ l)
  have hb : bit ws i = (at_ ws k).testBit j := by rw [bit, hk, hj]
  have hb' := bw.at k
  generalize at_ ws k = a at e1 hb hb'
  have hj' : j < 64 := by omega
  have w3 : (a : Int).fdiv (2 ^ min j IntKind.u64.bits) = ((a / 2 ^ j : Nat) : Int) := by
    rw [show min j IntKind.u64.bits = j from Nat.min_eq_left (by simp [IntKind.bits]; omega)]
    rw [show (2 : Int) ^ j = ((2 ^ j : Nat) : Int) by simp, Int.fdiv_eq_ediv_of_nonneg _ (Int.natCast_nonneg _)]
    rfl
  have w4 : IntKind.u64.wrap ((a / 2 ^ j % 2 ^ IntKind.u64.bits &&& 1 % 2 ^ IntKind.u64.bits : Nat) : Int) = if a.testBit j then 1 else 0 := by
    have hl : a / 2 ^ j < 18446744073709551616 := Nat.lt_of_le_of_lt (Nat.div_le_self _ _) hb'
    rw [bits_u, Nat.mod_eq_of_lt hl, wrapu, Nat.testBit_eq_decide_div_mod_eq]
    generalize a / 2 ^ j = q
    rw [show 1 % 18446744073709551616 = 1 from rfl, Nat.and_one_is_mod]
    by_cases c : q % 2 = 1
    · simp [c]
    · have : q % 2 = 0 := by omega
      simp [this]
  generalize a / 2 ^ j = q at w3 w4
  have e2 := run42 (i : Int)
  have c1 : decide ((0 : Int) ≤ i) = true := by simp
  have c2 : decide ((i : Int) < 65536) = true := by simp; omega
  have d0 : ¬ (j : Int) < 0 := by omega
  rw [c1, c2, Bool.and_self] at e2
  rw [hb]
  cases hc : a.testBit j
  all_goals rw [hc] at w4
  · rw [E_go (X := X) _ b24 _ rfl rfl]; unfold b24; (repeat (first | rw [s_assoc] | rw [s_seq_reg (by simp [evOps, evOp_n, evOp_r, evOp_d, evOp_dr, kpo_refl, kpo_app, cnd_some, cnd_pair, cnd_cnd_t, cnd_cnd_f, cnd_same, cnd_dvb, cnd_and, cnd_or, ↓evx_pick, gd_bool, gd_boolf, gd_tup, cnd_t, cnd_f, evTo, isCall, evx, put, lk, Od.v, keepEnv, enterEnv, ldx_ref, rdc, binx, binI, binS, unx, eqk, DV.isU, DV.cells, hget, hget0, hset, hset0, stx_ref, splice, DV.one, fillp, mat, eqcs, eqs, e2, w1, w2, w3, w4, e1, d0]; exact ⟨rfl, rfl⟩)] | rw [s_cnd (by simp [lk, keepEnv, Od.v, e2, w1, w2, w3, w4, e1, d0]; exact rfl)] | rw [cnd_t] | rw [cnd_f] | rw [s_skip] | rw [s_ret] | rw [s_exit] | rw [C_ret] | rw [C_exit] | rw [C_skip] | rw [blk_ret] | rw [blk_norm] | rw [blk_exit] | rw [blk_exit' (by decide)] | rw [blkT_ret] | rw [blkT_norm] | rw [blkT_exit] | rw [blkT_exit' (by decide)] | rw [s_blk] | rw [s_reg (by simp [evOps, evOp_n, evOp_r, evOp_d, evOp_dr, kpo_refl, kpo_app, cnd_some, cnd_pair, cnd_cnd_t, cnd_cnd_f, cnd_same, cnd_dvb, cnd_and, cnd_or, ↓evx_pick, gd_bool, gd_boolf, gd_tup, cnd_t, cnd_f, evTo, isCall, evx, put, lk, Od.v, keepEnv, enterEnv, ldx_ref, rdc, binx, binI, binS, unx, eqk, DV.isU, DV.cells, hget, hget0, hset, hset0, stx_ref, splice, DV.one, fillp, mat, eqcs, eqs, e2, w1, w2, w3, w4, e1, d0]; exact ⟨rfl, rfl⟩)] | rw [t_cnd (by simp [lk, keepEnv, Od.v, e2, w1, w2, w3, w4, e1, d0]; exact rfl)] | rw [t_blk])); simp [ends_ret, ends_norm, resL, evOps, evOp_n, evOp_r, evOp_d, evOp_dr, kpo_refl, kpo_app, cnd_some, cnd_pair, cnd_cnd_t, cnd_cnd_f, cnd_same, cnd_dvb, cnd_and, cnd_or, ↓evx_pick, gd_bool, gd_boolf, gd_tup, cnd_t, cnd_f, evTo, isCall, evx, put, lk, Od.v, keepEnv, enterEnv, ldx_ref, rdc, binx, binI, binS, unx, eqk, DV.isU, DV.cells, hget, hget0, hset, hset0, stx_ref, splice, DV.one, fillp, mat, eqcs, eqs, fin, fz0, fz1, fzT, fzL, nlt, e2, w1, w2, w3, w4, e1, d0]
  · rw [E_go (X := X) _ b24 _ rfl rfl]; unfold b24; (repeat (first | rw [s_assoc] | rw [s_seq_reg (by simp [evOps, evOp_n, evOp_r, evOp_d, evOp_dr, kpo_refl, kpo_app, cnd_some, cnd_pair, cnd_cnd_t, cnd_cnd_f, cnd_same, cnd_dvb, cnd_and, cnd_or, ↓evx_pick, gd_bool, gd_boolf, gd_tup, cnd_t, cnd_f, evTo, isCall, evx, put, lk, Od.v, keepEnv, enterEnv, ldx_ref, rdc, binx, binI, binS, unx, eqk, DV.isU, DV.cells, hget, hget0, hset, hset0, stx_ref, splice, DV.one, fillp, mat, eqcs, eqs, e2, w1, w2, w3, w4, e1, d0]; exact ⟨rfl, rfl⟩)] | rw [s_cnd (by simp [lk, keepEnv, Od.v, e2, w1, w2, w3, w4, e1, d0]; exact rfl)] | rw [cnd_t] | rw [cnd_f] | rw [s_skip] | rw [s_ret] | rw [s_exit] | rw [C_ret] | rw [C_exit] | rw [C_skip] | rw [blk_ret] | rw [blk_norm] | rw [blk_exit] | rw [blk_exit' (by decide)] | rw [blkT_ret] | rw [blkT_norm] | rw [blkT_exit] | rw [blkT_exit' (by decide)] | rw [s_blk] | rw [s_reg (by simp [evOps, evOp_n, evOp_r, evOp_d, evOp_dr, kpo_refl, kpo_app, cnd_some, cnd_pair, cnd_cnd_t, cnd_cnd_f, cnd_same, cnd_dvb, cnd_and, cnd_or, ↓evx_pick, gd_bool, gd_boolf, gd_tup, cnd_t, cnd_f, evTo, isCall, evx, put, lk, Od.v, keepEnv, enterEnv, ldx_ref, rdc, binx, binI, binS, unx, eqk, DV.isU, DV.cells, hget, hget0, hset, hset0, stx_ref, splice, DV.one, fillp, mat, eqcs, eqs, e2, w1, w2, w3, w4, e1, d0]; exact ⟨rfl, rfl⟩)] | rw [t_cnd (by simp [lk, keepEnv, Od.v, e2, w1, w2, w3, w4, e1, d0]; exact rfl)] | rw [t_blk])); simp [ends_ret, ends_norm, resL, evOps, evOp_n, evOp_r, evOp_d, evOp_dr, kpo_refl, kpo_app, cnd_some, cnd_pair, cnd_cnd_t, cnd_cnd_f, cnd_same, cnd_dvb, cnd_and, cnd_or, ↓evx_pick, gd_bool, gd_boolf, gd_tup, cnd_t, cnd_f, evTo, isCall, evx, put, lk, Od.v, keepEnv, enterEnv, ldx_ref, rdc, binx, binI, binS, unx, eqk, DV.isU, DV.cells, hget, hget0, hset, hset0, stx_ref, splice, DV.one, fillp, mat, eqcs, eqs, fin, fz0, fz1, fzT, fzL, nlt, e2, w1, w2, w3, w4, e1, d0]
end Go.Proofs.YtfgnefnpfgdliaaDoor
