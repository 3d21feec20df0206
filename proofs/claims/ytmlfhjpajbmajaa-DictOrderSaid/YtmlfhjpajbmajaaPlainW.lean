/- Ideal runs: DictOrder. -/
import Derived.Test.YtmlfhjpajbmajaaPlainS
namespace Go.Proofs.Ytmlfhjpajbmajaa
set_option linter.unusedVariables false
set_option linter.unusedSimpArgs false
set_option maxRecDepth 10000
def lp5_0 : XC := .seq (.seq (.reg [⟨some 31, .mov (.t 7), none, false⟩, ⟨some 32, .mov (.t 0), none, false⟩, ⟨some 33, .len 4 (.t 32), none, false⟩, ⟨some 34, .bin .lss (.t 31) (.t 33), none, false⟩] [0, 5, 6, 7, 34]) (.cond (.t 34) .skip (.exit 0))) (.seq (.block 1 (.seq (.reg [⟨some 38, .mov (.t 5), none, false⟩, ⟨some 39, .mov (.t 0), none, false⟩, ⟨some 40, .mov (.t 7), none, false⟩, ⟨some 41, .iaddr 4 (.t 39) (.t 40), none, false⟩, ⟨some 42, .load true 4 (.t 41), none, false⟩, ⟨some 43, .call (.c (.func 12 [] [])) [.t 38, .t 42], none, false⟩, ⟨some 37, .mov (.t 43), none, false⟩, ⟨some 44, .ext (.t 37) 0, none, false⟩, ⟨some 45, .ext (.t 37) 1, none, false⟩, ⟨some 8, .mov (.t 44), none, false⟩, ⟨some 9, .mov (.t 45), none, false⟩] [0, 5, 6, 7, 8, 9]) (.seq (.reg [⟨some 46, .mov (.t 6), none, false⟩, ⟨some 47, .mov (.t 0), none, false⟩, ⟨some 48, .mov (.t 0), none, false⟩, ⟨some 49, .len 4 (.t 48), none, false⟩, ⟨some 50, .bin .sub (.t 49) (.c (.int .i64 1)), none, false⟩, ⟨some 51, .mov (.t 7), none, false⟩, ⟨some 52, .bin .sub (.t 50) (.t 51), none, false⟩, ⟨some 53, .iaddr 4 (.t 47) (.t 52), none, false⟩, ⟨some 54, .load true 4 (.t 53), none, false⟩, ⟨some 55, .call (.c (.func 12 [] [])) [.t 46, .t 54], none, false⟩] [0, 5, 6, 7, 8, 9]) (.seq (.reg [⟨some 56, .mov (.t 9), none, false⟩, ⟨some 57, .bin .eql (.t 56) (.c (.int .i64 0)), none, false⟩, ⟨some 58, .mov (.t 57), none, false⟩, ⟨some 59, .mov (.t 8), some (58, true), false⟩, ⟨some 60, .bin .lss (.t 59) (.c (.int .i64 0)), some (58, true), false⟩, ⟨some 61, .mov (.t 60), some (58, true), false⟩, ⟨some 62, .mov (.t 8), some (61, false), false⟩, ⟨some 63, .mov (.t 5), some (61, false), false⟩, ⟨some 64, .call (.c (.func 14 [] [])) [.t 63], some (61, false), false⟩, ⟨some 65, .bin .geq (.t 62) (.t 64), some (61, false), false⟩, ⟨some 66, .pick (.t 61) (.c (.bool true)) (.t 65), some (58, true), false⟩, ⟨some 67, .pick (.t 58) (.t 66) (.c (.bool false)), none, false⟩] [0, 5, 6, 7, 67]) (.cond (.t 67) (.seq (.reg [⟨some 2, .mov (.c (.bool false)), none, false⟩] [2]) .ret) .skip))))) (.reg [⟨some 35, .mov (.t 7), none, false⟩, ⟨some 36, .bin .add (.t 35) (.c (.int .i64 1)), none, false⟩, ⟨some 7, .mov (.t 36), none, false⟩] [0, 5, 6, 7]))
def lp5_1 : XC := .seq (.seq (.reg [⟨some 78, .mov (.t 14), none, false⟩, ⟨some 79, .mov (.t 5), none, false⟩, ⟨some 80, .call (.c (.func 14 [] [])) [.t 79], none, false⟩, ⟨some 81, .bin .lss (.t 78) (.t 80), none, false⟩] [5, 6, 10, 12, 14, 81]) (.cond (.t 81) .skip (.exit 2))) (.seq (.block 3 (.seq (.reg [⟨some 85, .mov (.t 5), none, false⟩, ⟨some 86, .mov (.t 14), none, false⟩, ⟨some 87, .call (.c (.func 17 [] [])) [.t 85, .t 86], none, false⟩, ⟨some 84, .mov (.t 87), none, false⟩, ⟨some 88, .ext (.t 84) 0, none, false⟩, ⟨some 89, .ext (.t 84) 1, none, false⟩, ⟨some 15, .alloc 24 [.int .i64 0, .int .i64 0, .str ⟨#[]⟩, .bool false], none, false⟩, ⟨none, .store 4 (.t 15) (.t 88), none, false⟩, ⟨some 16, .mov (.t 89), none, false⟩] [5, 6, 10, 12, 14, 15, 16]) (.seq (.reg [⟨some 91, .mov (.t 5), none, false⟩, ⟨some 92, .load true 4 (.t 15), none, false⟩, ⟨some 93, .call (.c (.func 15 [] [])) [.t 91, .t 92], none, false⟩, ⟨some 90, .mov (.t 93), none, false⟩, ⟨some 94, .ext (.t 90) 0, none, false⟩, ⟨some 95, .ext (.t 90) 1, none, false⟩, ⟨some 17, .mov (.t 94), none, false⟩, ⟨some 18, .mov (.t 95), none, false⟩] [5, 6, 10, 12, 14, 16, 17, 18]) (.seq (.reg [⟨some 96, .mov (.t 16), none, false⟩, ⟨some 97, .un .not (.t 96), none, false⟩, ⟨some 98, .mov (.t 97), none, false⟩, ⟨some 99, .mov (.t 18), some (98, false), false⟩, ⟨some 100, .un .not (.t 99), some (98, false), false⟩, ⟨some 101, .pick (.t 98) (.c (.bool true)) (.t 100), none, false⟩, ⟨some 102, .mov (.t 101), none, false⟩, ⟨some 103, .mov (.t 17), some (102, false), false⟩, ⟨some 104, .mov (.t 14), some (102, false), false⟩, ⟨some 105, .bin .neq (.t 103) (.t 104), some (102, false), false⟩, ⟨some 106, .pick (.t 102) (.c (.bool true)) (.t 105), none, false⟩] [5, 6, 10, 12, 14, 106]) (.cond (.t 106) (.seq (.reg [⟨some 2, .mov (.c (.bool false)), none, false⟩] [2]) .ret) .skip))))) (.reg [⟨some 82, .mov (.t 14), none, false⟩, ⟨some 83, .bin .add (.t 82) (.c (.int .i64 1)), none, false⟩, ⟨some 14, .mov (.t 83), none, false⟩] [5, 6, 10, 12, 14]))
theorem run10w (h : Heap) {A : DV} {xs : List V} (hA : A = .list 4 (xs.map V.d) false ∨ (A = .nils ∧ xs = [])) : ∃ b, E X 10 [A] h = some (.bool b, h) ∧ (b = true → xs.length ≤ 100) := by
  rcases hA with rfl | ⟨rfl, rfl⟩
  · exact run10 h xs false
  · exact ⟨true, run10n h, fun _ => by simp⟩
theorem loop20 {h : Heap} {A B : DV} {xs : List V} (hA : vw h 4 A = some (xs.map V.d)) (hB : vw h 4 B = some (xs.map V.d)) (hb : xs.length ≤ 1000000) :
    ∀ (k i : Nat), xs.length - i ≤ k → i ≤ xs.length → ∃ e', C X (.loop lp20_0) [(0, A), (1, B), (5, .int .i64 i)] h = some (.exit 0, e', h) := by
  intro k
  induction k with
  | zero =>
    intro i hk hi
    obtain rfl : i = xs.length := by omega
    rw [t_loop]
    unfold lp20_0
    (repeat (first | rw [s_assoc] | rw [s_seq_reg (by simp [evOps, evOp_n, evOp_r, evOp_d, evOp_dr, kpo_refl, kpo_app, cnd_some, cnd_pair, cnd_cnd_t, cnd_cnd_f, cnd_same, cnd_dvb, cnd_and, cnd_or, ↓evx_pick, gd_bool, gd_boolf, gd_tup, cnd_t, cnd_f, evTo, isCall, evx, put, lk, Od.v, keepEnv, enterEnv, ldx_ref, rdc, binx, binI, binS, unx, eqk, DV.isU, DV.cells, hget, hget0, hset, hset0, stx_ref, splice, DV.one, fillp, mat, eqcs, eqs, hA]; exact ⟨rfl, rfl⟩)] | rw [s_cnd (by simp [lk, keepEnv, Od.v, hA]; exact rfl)] | rw [cnd_t] | rw [cnd_f] | rw [s_skip] | rw [s_ret] | rw [s_exit] | rw [C_ret] | rw [C_exit] | rw [C_skip] | rw [blk_ret] | rw [blk_norm] | rw [blk_exit] | rw [blk_exit' (by decide)] | rw [blkT_ret] | rw [blkT_norm] | rw [blkT_exit] | rw [blkT_exit' (by decide)] | rw [s_blk] | rw [s_reg (by simp [evOps, evOp_n, evOp_r, evOp_d, evOp_dr, kpo_refl, kpo_app, cnd_some, cnd_pair, cnd_cnd_t, cnd_cnd_f, cnd_same, cnd_dvb, cnd_and, cnd_or, ↓evx_pick, gd_bool, gd_boolf, gd_tup, cnd_t, cnd_f, evTo, isCall, evx, put, lk, Od.v, keepEnv, enterEnv, ldx_ref, rdc, binx, binI, binS, unx, eqk, DV.isU, DV.cells, hget, hget0, hset, hset0, stx_ref, splice, DV.one, fillp, mat, eqcs, eqs, hA]; exact ⟨rfl, rfl⟩)] | rw [t_cnd (by simp [lk, keepEnv, Od.v, hA]; exact rfl)] | rw [t_blk]))
    rw [lp_exit]
    exact ⟨_, rfl⟩
  | succ k ih =>
    intro i hk hi
    by_cases w0 : i < xs.length
    · obtain ⟨I, hI⟩ : ∃ I, I = i + 1 := ⟨_, rfl⟩
      have w1 : IntKind.i64.wrap ((i : Int) + 1) = (I : Int) := (by rw [wrap64 _ (by omega) (by omega)]; omega)
      have hs : C X lp20_0 [(0, A), (1, B), (5, .int .i64 i)] h = some (.norm, [(0, A), (1, B), (5, .int .i64 I)], h) := by
        unfold lp20_0
        (repeat (first | rw [s_assoc] | rw [s_seq_reg (by simp [evOps, evOp_n, evOp_r, evOp_d, evOp_dr, kpo_refl, kpo_app, cnd_some, cnd_pair, cnd_cnd_t, cnd_cnd_f, cnd_same, cnd_dvb, cnd_and, cnd_or, ↓evx_pick, gd_bool, gd_boolf, gd_tup, cnd_t, cnd_f, evTo, isCall, evx, put, lk, Od.v, keepEnv, enterEnv, ldx_ref, rdc, binx, binI, binS, unx, eqk, DV.isU, DV.cells, hget, hget0, hset, hset0, stx_ref, splice, DV.one, fillp, mat, eqcs, eqs, hA, hB, w0, w1, ldx, beq_bytes]; exact ⟨rfl, rfl⟩)] | rw [s_cnd (by simp [lk, keepEnv, Od.v, hA, hB, w0, w1, ldx, beq_bytes]; exact rfl)] | rw [cnd_t] | rw [cnd_f] | rw [s_skip] | rw [s_ret] | rw [s_exit] | rw [C_ret] | rw [C_exit] | rw [C_skip] | rw [blk_ret] | rw [blk_norm] | rw [blk_exit] | rw [blk_exit' (by decide)] | rw [blkT_ret] | rw [blkT_norm] | rw [blkT_exit] | rw [blkT_exit' (by decide)] | rw [s_blk] | rw [s_reg (by simp [evOps, evOp_n, evOp_r, evOp_d, evOp_dr, kpo_refl, kpo_app, cnd_some, cnd_pair, cnd_cnd_t, cnd_cnd_f, cnd_same, cnd_dvb, cnd_and, cnd_or, ↓evx_pick, gd_bool, gd_boolf, gd_tup, cnd_t, cnd_f, evTo, isCall, evx, put, lk, Od.v, keepEnv, enterEnv, ldx_ref, rdc, binx, binI, binS, unx, eqk, DV.isU, DV.cells, hget, hget0, hset, hset0, stx_ref, splice, DV.one, fillp, mat, eqcs, eqs, hA, hB, w0, w1, ldx, beq_bytes]; exact ⟨rfl, rfl⟩)] | rw [t_cnd (by simp [lk, keepEnv, Od.v, hA, hB, w0, w1, ldx, beq_bytes]; exact rfl)] | rw [t_blk]))
        simp [keepEnv, lk]
      rw [t_loop, hs, lp_norm]
      exact ih I (by omega) (by omega)
    · exact ih i (by omega) hi
theorem run20 {h : Heap} {A B : DV} {xs : List V} (hA : vw h 4 A = some (xs.map V.d)) (hB : vw h 4 B = some (xs.map V.d)) (hb : xs.length ≤ 1000000) : E X 20 [A, B] h = some (.bool true, h) := by
  obtain ⟨e', c1⟩ := loop20 hA hB hb xs.length 0 (by omega) (by omega)
  have hl2 : ((xs.length : Int) != xs.length) = false := by simp
  rw [show ((0 : Nat) : Int) = 0 from rfl] at c1
  unfold lp20_0 at c1
  rw [E_go (X := X) _ b20 _ rfl rfl]; unfold b20
  (repeat (first | rw [s_assoc] | rw [s_seq_reg (by simp [evOps, evOp_n, evOp_r, evOp_d, evOp_dr, kpo_refl, kpo_app, cnd_some, cnd_pair, cnd_cnd_t, cnd_cnd_f, cnd_same, cnd_dvb, cnd_and, cnd_or, ↓evx_pick, gd_bool, gd_boolf, gd_tup, cnd_t, cnd_f, evTo, isCall, evx, put, lk, Od.v, keepEnv, enterEnv, ldx_ref, rdc, binx, binI, binS, unx, eqk, DV.isU, DV.cells, hget, hget0, hset, hset0, stx_ref, splice, DV.one, fillp, mat, eqcs, eqs, hA, hB, hl2]; exact ⟨rfl, rfl⟩)] | rw [s_cnd (by simp [lk, keepEnv, Od.v, hA, hB, hl2]; exact rfl)] | rw [cnd_t] | rw [cnd_f] | rw [s_skip] | rw [s_ret] | rw [s_exit] | rw [C_ret] | rw [C_exit] | rw [C_skip] | rw [blk_ret] | rw [blk_norm] | rw [blk_exit] | rw [blk_exit' (by decide)] | rw [blkT_ret] | rw [blkT_norm] | rw [blkT_exit] | rw [blkT_exit' (by decide)] | rw [s_blk] | rw [s_reg (by simp [evOps, evOp_n, evOp_r, evOp_d, evOp_dr, kpo_refl, kpo_app, cnd_some, cnd_pair, cnd_cnd_t, cnd_cnd_f, cnd_same, cnd_dvb, cnd_and, cnd_or, ↓evx_pick, gd_bool, gd_boolf, gd_tup, cnd_t, cnd_f, evTo, isCall, evx, put, lk, Od.v, keepEnv, enterEnv, ldx_ref, rdc, binx, binI, binS, unx, eqk, DV.isU, DV.cells, hget, hget0, hset, hset0, stx_ref, splice, DV.one, fillp, mat, eqcs, eqs, hA, hB, hl2]; exact ⟨rfl, rfl⟩)] | rw [t_cnd (by simp [lk, keepEnv, Od.v, hA, hB, hl2]; exact rfl)] | rw [t_blk]))
  (try simp only [keepEnv, List.map_cons, List.map_nil, lk, reduceIte, Nat.reduceEqDiff, Nat.zero_ne_one, Nat.one_ne_zero])
  rw [c1]
  (repeat (first | rw [s_assoc] | rw [s_seq_reg (by simp [evOps, evOp_n, evOp_r, evOp_d, evOp_dr, kpo_refl, kpo_app, cnd_some, cnd_pair, cnd_cnd_t, cnd_cnd_f, cnd_same, cnd_dvb, cnd_and, cnd_or, ↓evx_pick, gd_bool, gd_boolf, gd_tup, cnd_t, cnd_f, evTo, isCall, evx, put, lk, Od.v, keepEnv, enterEnv, ldx_ref, rdc, binx, binI, binS, unx, eqk, DV.isU, DV.cells, hget, hget0, hset, hset0, stx_ref, splice, DV.one, fillp, mat, eqcs, eqs]; exact ⟨rfl, rfl⟩)] | rw [s_cnd (by simp [lk, keepEnv, Od.v]; exact rfl)] | rw [cnd_t] | rw [cnd_f] | rw [s_skip] | rw [s_ret] | rw [s_exit] | rw [C_ret] | rw [C_exit] | rw [C_skip] | rw [blk_ret] | rw [blk_norm] | rw [blk_exit] | rw [blk_exit' (by decide)] | rw [blkT_ret] | rw [blkT_norm] | rw [blkT_exit] | rw [blkT_exit' (by decide)] | rw [s_blk] | rw [s_reg (by simp [evOps, evOp_n, evOp_r, evOp_d, evOp_dr, kpo_refl, kpo_app, cnd_some, cnd_pair, cnd_cnd_t, cnd_cnd_f, cnd_same, cnd_dvb, cnd_and, cnd_or, ↓evx_pick, gd_bool, gd_boolf, gd_tup, cnd_t, cnd_f, evTo, isCall, evx, put, lk, Od.v, keepEnv, enterEnv, ldx_ref, rdc, binx, binI, binS, unx, eqk, DV.isU, DV.cells, hget, hget0, hset, hset0, stx_ref, splice, DV.one, fillp, mat, eqcs, eqs]; exact ⟨rfl, rfl⟩)] | rw [t_cnd (by simp [lk, keepEnv, Od.v]; exact rfl)] | rw [t_blk]))
  simp [ends_ret, ends_norm, resL, evOps, evOp_n, evOp_r, evOp_d, evOp_dr, kpo_refl, kpo_app, cnd_some, cnd_pair, cnd_cnd_t, cnd_cnd_f, cnd_same, cnd_dvb, cnd_and, cnd_or, ↓evx_pick, gd_bool, gd_boolf, gd_tup, cnd_t, cnd_f, evTo, isCall, evx, put, lk, Od.v, keepEnv, enterEnv, ldx_ref, rdc, binx, binI, binS, unx, eqk, DV.isU, DV.cells, hget, hget0, hset, hset0, stx_ref, splice, DV.one, fillp, mat, eqcs, eqs, fin, fz0, fz1, fzT, fzL, nlt]
/-- Two dictionaries, apart. -/
def Two (H : Heap) (lim : Int) (o1 m1 : Nat) (L1 : DV) (vs1 : List V) (o2 m2 : Nat) (L2 : DV) (vs2 : List V) : Prop :=
  DictAt H o1 m1 L1 lim vs1 ∧ DictAt H o2 m2 L2 lim vs2 ∧ o1 ≠ o2 ∧ m1 ≠ m2 ∧ ∀ r, rowOf L1 = some r → rowOf L2 ≠ some r
theorem Two.swap {H : Heap} {lim : Int} {o1 m1 : Nat} {L1 : DV} {vs1 : List V} {o2 m2 : Nat} {L2 : DV} {vs2 : List V} (h : Two H lim o1 m1 L1 vs1 o2 m2 L2 vs2) : Two H lim o2 m2 L2 vs2 o1 m1 L1 vs1 :=
  ⟨h.2.1, h.1, h.2.2.1.symm, h.2.2.2.1.symm, fun r h1 h2 => h.2.2.2.2 r h2 h1⟩
theorem DictAt.row_at {H : Heap} {o m : Nat} {L : DV} {lim : Int} {vs : List V} (hd : DictAt H o m L lim vs) {r : Nat} (hr : rowOf L = some r) : ∃ g xs, H[r]? = some (.row 24 4 g xs) := by
  rcases hd.row with ⟨_, rfl⟩ | ⟨q, g, rfl, h2⟩
  · cases hr
  · injection hr with hr; subst hr; exact ⟨g, _, h2⟩
theorem Two.add {H : Heap} {lim : Int} {o1 m1 : Nat} {L1 : DV} {vs1 : List V} {o2 m2 : Nat} {L2 : DV} {vs2 : List V} (h : Two H lim o1 m1 L1 vs1 o2 m2 L2 vs2) (hlim : lim ≤ 4096) (v : V) :
    ∃ L1' H', E X 12 [.ref o1 0, v.d] H = some (.tup [.int .i64 (addS lim vs1 v).1, .int .i64 (addS lim vs1 v).2.1], H') ∧ Two H' lim o1 m1 L1' (addS lim vs1 v).2.2 o2 m2 L2 vs2 := by
  obtain ⟨d1, d2, ho, hm, hr⟩ := h
  obtain ⟨L', H', e, d', hl, hf, hrow⟩ := run12_all d1 hlim v
  refine ⟨L', H', e, d', d2.keep ?_ ?_ ?_, ho, hm, ?_⟩
  · refine hf o2 (List.getElem?_eq_some_iff.1 d2.box).1 ho.symm ?_ ?_
    · rintro rfl; have := d2.box.symm.trans d1.map; simp at this
    · intro hc; obtain ⟨g, xs, hx⟩ := d1.row_at hc; have := d2.box.symm.trans hx; simp at this
  · refine hf m2 (List.getElem?_eq_some_iff.1 d2.map).1 ?_ hm.symm ?_
    · rintro rfl; have := d2.map.symm.trans d1.box; simp at this
    · intro hc; obtain ⟨g, xs, hx⟩ := d1.row_at hc; have := d2.map.symm.trans hx; simp at this
  · intro r hr2
    obtain ⟨g, xs, hx⟩ := d2.row_at hr2
    refine hf r (List.getElem?_eq_some_iff.1 hx).1 ?_ ?_ (fun hc => hr r hc hr2)
    · rintro rfl; have := hx.symm.trans d1.box; simp at this
    · rintro rfl; have := hx.symm.trans d1.map; simp at this
  · intro r h1 h2
    rcases hrow with hrow | ⟨q, hq, hq2⟩
    · rw [hrow] at h1; exact hr r h1 h2
    · rw [hq] at h1; injection h1 with h1; subst h1
      have := d2.row_lt h2
      omega
theorem addS_mem {lim : Int} {vs : List V} (v : V) (hl : (vs.length : Int) < lim) (x : V) : x ∈ (addS lim vs v).2.2 ↔ x ∈ vs ∨ (x = v ∧ mayV v = true) := by
  unfold addS
  cases hm : mayV v
  · simp
  · rw [if_pos rfl]
    cases hf : fnd v vs 0 with
    | some j =>
      obtain ⟨_, _, h3⟩ := fnd_lt v vs 0 j hf
      have := List.mem_of_getElem? h3
      simp only
      constructor
      · exact .inl
      · rintro (h | ⟨rfl, _⟩)
        · exact h
        · exact this
    | none =>
      simp only
      rw [if_neg (by omega)]
      simp
/-- A dictionary has just the values that were added and may be. -/
def Has (vs ls : List V) : Prop := ∀ x, x ∈ vs ↔ x ∈ ls ∧ mayV x = true
theorem Has.add {lim : Int} {vs ls : List V} (h : Has vs ls) (v : V) (hl : (vs.length : Int) < lim) : Has (addS lim vs v).2.2 (ls ++ [v]) := by
  intro x
  rw [addS_mem v hl, h x]
  simp only [List.mem_append, List.mem_singleton]
  constructor
  · rintro (⟨h1, h2⟩ | ⟨rfl, h2⟩)
    · exact ⟨.inl h1, h2⟩
    · exact ⟨.inr rfl, h2⟩
  · rintro ⟨h1 | rfl, h2⟩
    · exact .inl ⟨h1, h2⟩
    · exact .inr ⟨rfl, h2⟩
theorem loop5a {A : DV} {ls : List V} {o1 m1 o2 m2 : Nat} (hA : ∀ g, vw g 4 A = some (ls.map V.d)) (hb : ls.length ≤ 100) :
    ∀ (k i : Nat) (vs1 vs2 : List V) (L1 L2 : DV) (H : Heap), ls.length - i ≤ k → i ≤ ls.length → Two H 4096 o1 m1 L1 vs1 o2 m2 L2 vs2 → Gd vs1 → Gd vs2 → Has vs1 (ls.take i) → Has vs2 (ls.reverse.take i) → vs1.length ≤ i → vs2.length ≤ i →
      ∃ vs1' vs2' L1' L2' H', C X (.loop lp5_0) [(0, A), (5, .ref o1 0), (6, .ref o2 0), (7, .int .i64 i)] H = some (.exit 0, [(0, A), (5, .ref o1 0), (6, .ref o2 0), (7, .int .i64 ls.length), (34, .bool false)], H') ∧
        Two H' 4096 o1 m1 L1' vs1' o2 m2 L2' vs2' ∧ Gd vs1' ∧ Gd vs2' ∧ Has vs1' ls ∧ Has vs2' ls.reverse ∧ vs1'.length ≤ ls.length ∧ vs2'.length ≤ ls.length := by
  intro k
  induction k with
  | zero =>
    intro i vs1 vs2 L1 L2 H hk hi hT g1 g2 h1 h2 l1 l2
    obtain rfl : i = ls.length := by omega
    rw [List.take_length] at h1
    rw [List.take_of_length_le (by simp)] at h2
    refine ⟨vs1, vs2, L1, L2, H, ?_, hT, g1, g2, h1, h2, l1, l2⟩
    rw [t_loop]
    unfold lp5_0
    (repeat (first | rw [s_assoc] | rw [s_seq_reg (by simp [evOps, evOp_n, evOp_r, evOp_d, evOp_dr, kpo_refl, kpo_app, cnd_some, cnd_pair, cnd_cnd_t, cnd_cnd_f, cnd_same, cnd_dvb, cnd_and, cnd_or, ↓evx_pick, gd_bool, gd_boolf, gd_tup, cnd_t, cnd_f, evTo, isCall, evx, put, lk, Od.v, keepEnv, enterEnv, ldx_ref, rdc, binx, binI, binS, unx, eqk, DV.isU, DV.cells, hget, hget0, hset, hset0, stx_ref, splice, DV.one, fillp, mat, eqcs, eqs, hA]; exact ⟨rfl, rfl⟩)] | rw [s_cnd (by simp [lk, keepEnv, Od.v, hA]; exact rfl)] | rw [cnd_t] | rw [cnd_f] | rw [s_skip] | rw [s_ret] | rw [s_exit] | rw [C_ret] | rw [C_exit] | rw [C_skip] | rw [blk_ret] | rw [blk_norm] | rw [blk_exit] | rw [blk_exit' (by decide)] | rw [blkT_ret] | rw [blkT_norm] | rw [blkT_exit] | rw [blkT_exit' (by decide)] | rw [s_blk] | rw [s_reg (by simp [evOps, evOp_n, evOp_r, evOp_d, evOp_dr, kpo_refl, kpo_app, cnd_some, cnd_pair, cnd_cnd_t, cnd_cnd_f, cnd_same, cnd_dvb, cnd_and, cnd_or, ↓evx_pick, gd_bool, gd_boolf, gd_tup, cnd_t, cnd_f, evTo, isCall, evx, put, lk, Od.v, keepEnv, enterEnv, ldx_ref, rdc, binx, binI, binS, unx, eqk, DV.isU, DV.cells, hget, hget0, hset, hset0, stx_ref, splice, DV.one, fillp, mat, eqcs, eqs, hA]; exact ⟨rfl, rfl⟩)] | rw [t_cnd (by simp [lk, keepEnv, Od.v, hA]; exact rfl)] | rw [t_blk]))
    rw [lp_exit]
    simp [keepEnv, lk]
  | succ k ih =>
    intro i vs1 vs2 L1 L2 H hk hi hT g1 g2 h1 h2 l1 l2
    by_cases w0 : i < ls.length
    · obtain ⟨I, hI⟩ : ∃ I, I = i + 1 := ⟨_, rfl⟩
      obtain ⟨M, hM⟩ : ∃ M, M = ls.length - 1 := ⟨_, rfl⟩
      obtain ⟨J, hJ⟩ : ∃ J, J = M - i := ⟨_, rfl⟩
      have w1 : IntKind.i64.wrap ((i : Int) + 1) = (I : Int) := (by rw [wrap64 _ (by omega) (by omega)]; omega)
      have w2 : IntKind.i64.wrap ((ls.length : Int) - 1) = (M : Int) := (by rw [wrap64 _ (by omega) (by omega)]; omega)
      have w3 : IntKind.i64.wrap ((M : Int) - i) = (J : Int) := (by rw [wrap64 _ (by omega) (by omega)]; omega)
      have wJ : J < ls.length := by omega
      obtain ⟨v, hv⟩ : ∃ v, v = ls[i] := ⟨_, rfl⟩
      obtain ⟨u, hu⟩ : ∃ u, u = ls[J] := ⟨_, rfl⟩
      have hvi : ls[i]? = some v := by rw [hv]; exact List.getElem?_eq_getElem w0
      have hui : ls.reverse[i]? = some u := by
        rw [List.getElem?_reverse w0, hu, ← hM, ← hJ]; exact List.getElem?_eq_getElem wJ
      have hok := fun h => addS_ok (lim := 4096) (vs := vs1) (v := v) h
      have b1 := addS_len 4096 vs1 v
      have b2 := addS_len 4096 vs2 u
      obtain ⟨L1', H1, e1, T1⟩ := hT.add (by omega) v
      obtain ⟨L2', H2, e2, T2⟩ := T1.swap.add (by omega) u
      have T3 := T2.swap
      have a1 := h1.add (lim := 4096) v (by omega)
      have a2 := h2.add (lim := 4096) u (by omega)
      have g1' := addS_gd 4096 v g1
      have g2' := addS_gd 4096 u g2
      have hs : C X lp5_0 [(0, A), (5, .ref o1 0), (6, .ref o2 0), (7, .int .i64 i)] H = some (.norm, [(0, A), (5, .ref o1 0), (6, .ref o2 0), (7, .int .i64 I)], H2) := by
        have e3 := run14 T3.1
        generalize addS 4096 vs1 v = q at e1 hok e3 T3
        obtain ⟨n1, c1, vs1'⟩ := q
        simp only at e1 hok e3
        by_cases hc : c1 = 0
        · obtain ⟨j, hj, hj2⟩ := hok hc
          subst hj
          have hjl : j < vs1'.length := (List.getElem?_eq_some_iff.1 hj2).1
          have z1 : ¬ ((j : Int) < 0) := by omega
          have z2 : ¬ vs1'.length ≤ j := by omega
          have hc' : (c1 == 0) = true := by simp [hc]
          unfold lp5_0
          (repeat (first | rw [s_assoc] | rw [s_seq_reg (by simp [evOps, evOp_n, evOp_r, evOp_d, evOp_dr, kpo_refl, kpo_app, cnd_some, cnd_pair, cnd_cnd_t, cnd_cnd_f, cnd_same, cnd_dvb, cnd_and, cnd_or, ↓evx_pick, gd_bool, gd_boolf, gd_tup, cnd_t, cnd_f, evTo, isCall, evx, put, lk, Od.v, keepEnv, enterEnv, ldx_ref, rdc, binx, binI, binS, unx, eqk, DV.isU, DV.cells, hget, hget0, hset, hset0, stx_ref, splice, DV.one, fillp, mat, eqcs, eqs, w0, w1, w2, w3, wJ, hA, ← hv, ← hu, ldx, e1, e2, e3, hc', z1, z2]; exact ⟨rfl, rfl⟩)] | rw [s_cnd (by simp [lk, keepEnv, Od.v, w0, w1, w2, w3, wJ, hA, ← hv, ← hu, ldx, e1, e2, e3, hc', z1, z2]; exact rfl)] | rw [cnd_t] | rw [cnd_f] | rw [s_skip] | rw [s_ret] | rw [s_exit] | rw [C_ret] | rw [C_exit] | rw [C_skip] | rw [blk_ret] | rw [blk_norm] | rw [blk_exit] | rw [blk_exit' (by decide)] | rw [blkT_ret] | rw [blkT_norm] | rw [blkT_exit] | rw [blkT_exit' (by decide)] | rw [s_blk] | rw [s_reg (by simp [evOps, evOp_n, evOp_r, evOp_d, evOp_dr, kpo_refl, kpo_app, cnd_some, cnd_pair, cnd_cnd_t, cnd_cnd_f, cnd_same, cnd_dvb, cnd_and, cnd_or, ↓evx_pick, gd_bool, gd_boolf, gd_tup, cnd_t, cnd_f, evTo, isCall, evx, put, lk, Od.v, keepEnv, enterEnv, ldx_ref, rdc, binx, binI, binS, unx, eqk, DV.isU, DV.cells, hget, hget0, hset, hset0, stx_ref, splice, DV.one, fillp, mat, eqcs, eqs, w0, w1, w2, w3, wJ, hA, ← hv, ← hu, ldx, e1, e2, e3, hc', z1, z2]; exact ⟨rfl, rfl⟩)] | rw [t_cnd (by simp [lk, keepEnv, Od.v, w0, w1, w2, w3, wJ, hA, ← hv, ← hu, ldx, e1, e2, e3, hc', z1, z2]; exact rfl)] | rw [t_blk]))
          simp [keepEnv, lk]
        · have hc' : (c1 == 0) = false := by simp [hc]
          unfold lp5_0
          (repeat (first | rw [s_assoc] | rw [s_seq_reg (by simp [evOps, evOp_n, evOp_r, evOp_d, evOp_dr, kpo_refl, kpo_app, cnd_some, cnd_pair, cnd_cnd_t, cnd_cnd_f, cnd_same, cnd_dvb, cnd_and, cnd_or, ↓evx_pick, gd_bool, gd_boolf, gd_tup, cnd_t, cnd_f, evTo, isCall, evx, put, lk, Od.v, keepEnv, enterEnv, ldx_ref, rdc, binx, binI, binS, unx, eqk, DV.isU, DV.cells, hget, hget0, hset, hset0, stx_ref, splice, DV.one, fillp, mat, eqcs, eqs, w0, w1, w2, w3, wJ, hA, ← hv, ← hu, ldx, e1, e2, e3, hc']; exact ⟨rfl, rfl⟩)] | rw [s_cnd (by simp [lk, keepEnv, Od.v, w0, w1, w2, w3, wJ, hA, ← hv, ← hu, ldx, e1, e2, e3, hc']; exact rfl)] | rw [cnd_t] | rw [cnd_f] | rw [s_skip] | rw [s_ret] | rw [s_exit] | rw [C_ret] | rw [C_exit] | rw [C_skip] | rw [blk_ret] | rw [blk_norm] | rw [blk_exit] | rw [blk_exit' (by decide)] | rw [blkT_ret] | rw [blkT_norm] | rw [blkT_exit] | rw [blkT_exit' (by decide)] | rw [s_blk] | rw [s_reg (by simp [evOps, evOp_n, evOp_r, evOp_d, evOp_dr, kpo_refl, kpo_app, cnd_some, cnd_pair, cnd_cnd_t, cnd_cnd_f, cnd_same, cnd_dvb, cnd_and, cnd_or, ↓evx_pick, gd_bool, gd_boolf, gd_tup, cnd_t, cnd_f, evTo, isCall, evx, put, lk, Od.v, keepEnv, enterEnv, ldx_ref, rdc, binx, binI, binS, unx, eqk, DV.isU, DV.cells, hget, hget0, hset, hset0, stx_ref, splice, DV.one, fillp, mat, eqcs, eqs, w0, w1, w2, w3, wJ, hA, ← hv, ← hu, ldx, e1, e2, e3, hc']; exact ⟨rfl, rfl⟩)] | rw [t_cnd (by simp [lk, keepEnv, Od.v, w0, w1, w2, w3, wJ, hA, ← hv, ← hu, ldx, e1, e2, e3, hc']; exact rfl)] | rw [t_blk]))
          simp [keepEnv, lk]
      rw [t_loop, hs, lp_norm]
      refine ih I _ _ L1' L2' H2 (by omega) (by omega) T3 g1' g2' ?_ ?_ (by omega) (by omega)
      · rw [hI, List.take_add_one, hvi]; exact a1
      · rw [hI, List.take_add_one, hui]; exact a2
    · exact ih i vs1 vs2 L1 L2 H (by omega) hi hT g1 g2 h1 h2 l1 l2
theorem loop5b {S T : DV} {vs : List V} {o1 o2 m : Nat} {L : DV} {lim : Int} {H2 : Heap} (hd : DictAt H2 o1 m L lim vs) (hgd : Gd vs) (hb : vs.length ≤ 1000) :
    ∀ (k i : Nat) (l : Heap), vs.length - i ≤ k → i ≤ vs.length →
      ∃ l' ex, C X (.loop lp5_1) [(5, .ref o1 0), (6, .ref o2 0), (10, S), (12, T), (14, .int .i64 i)] (H2 ++ l) = some (.exit 2, (5, .ref o1 0) :: (6, .ref o2 0) :: (10, S) :: (12, T) :: ex, H2 ++ l') := by
  intro k
  induction k with
  | zero =>
    intro i l hk hi
    obtain rfl : i = vs.length := by omega
    have e1 := fun l => run14 (hd.app l)
    rw [t_loop]
    unfold lp5_1
    (repeat (first | rw [s_assoc] | rw [s_seq_reg (by simp [evOps, evOp_n, evOp_r, evOp_d, evOp_dr, kpo_refl, kpo_app, cnd_some, cnd_pair, cnd_cnd_t, cnd_cnd_f, cnd_same, cnd_dvb, cnd_and, cnd_or, ↓evx_pick, gd_bool, gd_boolf, gd_tup, cnd_t, cnd_f, evTo, isCall, evx, put, lk, Od.v, keepEnv, enterEnv, ldx_ref, rdc, binx, binI, binS, unx, eqk, DV.isU, DV.cells, hget, hget0, hset, hset0, stx_ref, splice, DV.one, fillp, mat, eqcs, eqs, e1]; exact ⟨rfl, rfl⟩)] | rw [s_cnd (by simp [lk, keepEnv, Od.v, e1]; exact rfl)] | rw [cnd_t] | rw [cnd_f] | rw [s_skip] | rw [s_ret] | rw [s_exit] | rw [C_ret] | rw [C_exit] | rw [C_skip] | rw [blk_ret] | rw [blk_norm] | rw [blk_exit] | rw [blk_exit' (by decide)] | rw [blkT_ret] | rw [blkT_norm] | rw [blkT_exit] | rw [blkT_exit' (by decide)] | rw [s_blk] | rw [s_reg (by simp [evOps, evOp_n, evOp_r, evOp_d, evOp_dr, kpo_refl, kpo_app, cnd_some, cnd_pair, cnd_cnd_t, cnd_cnd_f, cnd_same, cnd_dvb, cnd_and, cnd_or, ↓evx_pick, gd_bool, gd_boolf, gd_tup, cnd_t, cnd_f, evTo, isCall, evx, put, lk, Od.v, keepEnv, enterEnv, ldx_ref, rdc, binx, binI, binS, unx, eqk, DV.isU, DV.cells, hget, hget0, hset, hset0, stx_ref, splice, DV.one, fillp, mat, eqcs, eqs, e1]; exact ⟨rfl, rfl⟩)] | rw [t_cnd (by simp [lk, keepEnv, Od.v, e1]; exact rfl)] | rw [t_blk]))
    rw [lp_exit]
    exact ⟨l, [(14, .int .i64 vs.length), (81, .bool false)], by simp [keepEnv, lk]⟩
  | succ k ih =>
    intro i l hk hi
    by_cases w0 : i < vs.length
    · obtain ⟨I, hI⟩ : ∃ I, I = i + 1 := ⟨_, rfl⟩
      have w1 : IntKind.i64.wrap ((i : Int) + 1) = (I : Int) := (by rw [wrap64 _ (by omega) (by omega)]; omega)
      obtain ⟨v, hv⟩ : ∃ v, v = vs[i] := ⟨_, rfl⟩
      have hvi : vs[i]? = some v := by rw [hv]; exact List.getElem?_eq_getElem w0
      have e1 := fun l => run14 (hd.app l)
      have e17 := fun l => run17 (hd.app l) i hvi
      have e15 := fun l => run15 (hd.app l) v
      rw [fnd_at hgd hvi] at e15
      have hs : C X lp5_1 [(5, .ref o1 0), (6, .ref o2 0), (10, S), (12, T), (14, .int .i64 i)] (H2 ++ l) = some (.norm, [(5, .ref o1 0), (6, .ref o2 0), (10, S), (12, T), (14, .int .i64 I)], H2 ++ (l ++ [HO.box 24 [.int .i64 v.k, .int .i64 v.n, .str v.s, .bool v.t]])) := by
        unfold lp5_1
        (repeat (first | rw [s_assoc] | rw [s_seq_reg (by simp [evOps, evOp_n, evOp_r, evOp_d, evOp_dr, kpo_refl, kpo_app, cnd_some, cnd_pair, cnd_cnd_t, cnd_cnd_f, cnd_same, cnd_dvb, cnd_and, cnd_or, ↓evx_pick, gd_bool, gd_boolf, gd_tup, cnd_t, cnd_f, evTo, isCall, evx, put, lk, Od.v, keepEnv, enterEnv, ldx_ref, rdc, binx, binI, binS, unx, eqk, DV.isU, DV.cells, hget, hget0, hset, hset0, stx_ref, splice, DV.one, fillp, mat, eqcs, eqs, w0, w1, e1, e17, e15]; exact ⟨rfl, rfl⟩)] | rw [s_cnd (by simp [lk, keepEnv, Od.v, w0, w1, e1, e17, e15]; exact rfl)] | rw [cnd_t] | rw [cnd_f] | rw [s_skip] | rw [s_ret] | rw [s_exit] | rw [C_ret] | rw [C_exit] | rw [C_skip] | rw [blk_ret] | rw [blk_norm] | rw [blk_exit] | rw [blk_exit' (by decide)] | rw [blkT_ret] | rw [blkT_norm] | rw [blkT_exit] | rw [blkT_exit' (by decide)] | rw [s_blk] | rw [s_reg (by simp [evOps, evOp_n, evOp_r, evOp_d, evOp_dr, kpo_refl, kpo_app, cnd_some, cnd_pair, cnd_cnd_t, cnd_cnd_f, cnd_same, cnd_dvb, cnd_and, cnd_or, ↓evx_pick, gd_bool, gd_boolf, gd_tup, cnd_t, cnd_f, evTo, isCall, evx, put, lk, Od.v, keepEnv, enterEnv, ldx_ref, rdc, binx, binI, binS, unx, eqk, DV.isU, DV.cells, hget, hget0, hset, hset0, stx_ref, splice, DV.one, fillp, mat, eqcs, eqs, w0, w1, e1, e17, e15]; exact ⟨rfl, rfl⟩)] | rw [t_cnd (by simp [lk, keepEnv, Od.v, w0, w1, e1, e17, e15]; exact rfl)] | rw [t_blk]))
        simp [keepEnv, lk]
      rw [t_loop, hs, lp_norm]
      exact ih I _ (by omega) (by omega)
    · exact ih i l (by omega) hi
theorem run5 {A : DV} {ls : List V} (hA : A = .list 4 (ls.map V.d) false ∨ (A = .nils ∧ ls = [])) : ∃ h', E X 5 [A] [] = some (.bool true, h') := by
  have hvw : ∀ g, vw g 4 A = some (ls.map V.d) := by
    intro g; rcases hA with rfl | ⟨rfl, rfl⟩ <;> rfl
  have e1 := run9
  obtain ⟨b, e2, hb⟩ := run10w [] hA
  cases b with
  | false =>
    refine ⟨[], ?_⟩
    rw [E_go (X := X) _ b5 _ rfl rfl]; unfold b5; (repeat (first | rw [s_assoc] | rw [s_seq_reg (by simp [evOps, evOp_n, evOp_r, evOp_d, evOp_dr, kpo_refl, kpo_app, cnd_some, cnd_pair, cnd_cnd_t, cnd_cnd_f, cnd_same, cnd_dvb, cnd_and, cnd_or, ↓evx_pick, gd_bool, gd_boolf, gd_tup, cnd_t, cnd_f, evTo, isCall, evx, put, lk, Od.v, keepEnv, enterEnv, ldx_ref, rdc, binx, binI, binS, unx, eqk, DV.isU, DV.cells, hget, hget0, hset, hset0, stx_ref, splice, DV.one, fillp, mat, eqcs, eqs, e1, e2]; exact ⟨rfl, rfl⟩)] | rw [s_cnd (by simp [lk, keepEnv, Od.v, e1, e2]; exact rfl)] | rw [cnd_t] | rw [cnd_f] | rw [s_skip] | rw [s_ret] | rw [s_exit] | rw [C_ret] | rw [C_exit] | rw [C_skip] | rw [blk_ret] | rw [blk_norm] | rw [blk_exit] | rw [blk_exit' (by decide)] | rw [blkT_ret] | rw [blkT_norm] | rw [blkT_exit] | rw [blkT_exit' (by decide)] | rw [s_blk] | rw [s_reg (by simp [evOps, evOp_n, evOp_r, evOp_d, evOp_dr, kpo_refl, kpo_app, cnd_some, cnd_pair, cnd_cnd_t, cnd_cnd_f, cnd_same, cnd_dvb, cnd_and, cnd_or, ↓evx_pick, gd_bool, gd_boolf, gd_tup, cnd_t, cnd_f, evTo, isCall, evx, put, lk, Od.v, keepEnv, enterEnv, ldx_ref, rdc, binx, binI, binS, unx, eqk, DV.isU, DV.cells, hget, hget0, hset, hset0, stx_ref, splice, DV.one, fillp, mat, eqcs, eqs, e1, e2]; exact ⟨rfl, rfl⟩)] | rw [t_cnd (by simp [lk, keepEnv, Od.v, e1, e2]; exact rfl)] | rw [t_blk])); simp [ends_ret, ends_norm, resL, evOps, evOp_n, evOp_r, evOp_d, evOp_dr, kpo_refl, kpo_app, cnd_some, cnd_pair, cnd_cnd_t, cnd_cnd_f, cnd_same, cnd_dvb, cnd_and, cnd_or, ↓evx_pick, gd_bool, gd_boolf, gd_tup, cnd_t, cnd_f, evTo, isCall, evx, put, lk, Od.v, keepEnv, enterEnv, ldx_ref, rdc, binx, binI, binS, unx, eqk, DV.isU, DV.cells, hget, hget0, hset, hset0, stx_ref, splice, DV.one, fillp, mat, eqcs, eqs, fin, fz0, fz1, fzT, fzL, nlt, e1, e2]
  | true =>
    have hl := hb rfl
    have e3 := run11' 4096 []
    have D1 := new_dict 4096 []
    rw [List.nil_append, show ([] : Heap).length = 0 from rfl, show limOf 4096 = 4096 from rfl] at e3 D1
    generalize hH1 : ([.map 0 0 [], .box 55 [.int .i64 4096, .nils, .map 0]] : Heap) = H1 at e3 D1
    have l1 : H1.length = 2 := by rw [← hH1]; rfl
    have e4 := run11' 4096 H1
    have D2 := new_dict 4096 H1
    rw [show limOf 4096 = 4096 from rfl] at e4 D2
    have D1' := D1.app [.map 0 0 [], .box 55 [.int .i64 4096, .nils, .map H1.length]]
    rw [l1] at e4 D2 D1'
    generalize hH2 : H1 ++ [.map 0 0 [], .box 55 [.int .i64 4096, .nils, .map 2]] = H2 at e4 D2 D1'
    have T0 : Two H2 4096 (0 + 1) 0 .nils [] (2 + 1) 2 .nils [] := ⟨D1', D2, by omega, by omega, fun r h => by cases h⟩
    have h0 : ∀ l : List V, Has [] (l.take 0) := fun l x => by simp
    obtain ⟨vs1, vs2, L1, L2, H3, c1, T3, g1, g2, a1, a2, b1, b2⟩ := loop5a hvw hl ls.length 0 [] [] .nils .nils H2 (by omega) (by omega) T0 gd_nil gd_nil (h0 ls) (h0 ls.reverse) (by simp) (by simp)
    obtain ⟨S, _, ys1, e5, hS, _, u1, p1⟩ := run18A T3.1 (by omega) g1
    obtain ⟨T, _, ys2, e6, hT, _, u2, p2⟩ := run18A T3.2.1 (by omega) g2
    have hy : ys1 = ys2 := up_ext ys1 ys2 u1 u2 (fun v => by rw [p1.mem_iff, p2.mem_iff, a1 v, a2 v]; simp)
    subst hy
    have hlen : vs1.length = vs2.length := by rw [← p1.length_eq, ← p2.length_eq]
    obtain ⟨l', ex, c2⟩ := loop5b (S := S) (T := T) (o2 := 2 + 1) T3.1 g1 (by omega) vs1.length 0 [] (by omega) (by omega)
    have e5' := e5 []
    have e6' := e6 []
    rw [List.append_nil] at e5' e6' c2
    rw [show ((0 : Nat) : Int) = 0 from rfl] at c1 c2
    have e7 := run14 (T3.1.app l')
    have e8 := run14 (T3.2.1.app l')
    have e9 := run20 (h := H3 ++ l') (hS _) (hT _) (by rw [p1.length_eq]; omega)
    have z1 : ((vs1.length : Int) == vs2.length) = true := by simp [hlen]
    obtain ⟨h', c3⟩ := fin_val [] (H3 ++ l') (d := .bool true) rfl
    refine ⟨h', ?_⟩
    unfold lp5_0 at c1
    unfold lp5_1 at c2
    rw [E_go (X := X) _ b5 _ rfl rfl]; unfold b5
    (repeat (first | rw [s_assoc] | rw [s_seq_reg (by simp [evOps, evOp_n, evOp_r, evOp_d, evOp_dr, kpo_refl, kpo_app, cnd_some, cnd_pair, cnd_cnd_t, cnd_cnd_f, cnd_same, cnd_dvb, cnd_and, cnd_or, ↓evx_pick, gd_bool, gd_boolf, gd_tup, cnd_t, cnd_f, evTo, isCall, evx, put, lk, Od.v, keepEnv, enterEnv, ldx_ref, rdc, binx, binI, binS, unx, eqk, DV.isU, DV.cells, hget, hget0, hset, hset0, stx_ref, splice, DV.one, fillp, mat, eqcs, eqs, e1, e2, e3, e4]; exact ⟨rfl, rfl⟩)] | rw [s_cnd (by simp [lk, keepEnv, Od.v, e1, e2, e3, e4]; exact rfl)] | rw [cnd_t] | rw [cnd_f] | rw [s_skip] | rw [s_ret] | rw [s_exit] | rw [C_ret] | rw [C_exit] | rw [C_skip] | rw [blk_ret] | rw [blk_norm] | rw [blk_exit] | rw [blk_exit' (by decide)] | rw [blkT_ret] | rw [blkT_norm] | rw [blkT_exit] | rw [blkT_exit' (by decide)] | rw [s_blk] | rw [s_reg (by simp [evOps, evOp_n, evOp_r, evOp_d, evOp_dr, kpo_refl, kpo_app, cnd_some, cnd_pair, cnd_cnd_t, cnd_cnd_f, cnd_same, cnd_dvb, cnd_and, cnd_or, ↓evx_pick, gd_bool, gd_boolf, gd_tup, cnd_t, cnd_f, evTo, isCall, evx, put, lk, Od.v, keepEnv, enterEnv, ldx_ref, rdc, binx, binI, binS, unx, eqk, DV.isU, DV.cells, hget, hget0, hset, hset0, stx_ref, splice, DV.one, fillp, mat, eqcs, eqs, e1, e2, e3, e4]; exact ⟨rfl, rfl⟩)] | rw [t_cnd (by simp [lk, keepEnv, Od.v, e1, e2, e3, e4]; exact rfl)] | rw [t_blk]))
    (try simp only [keepEnv, List.map_cons, List.map_nil, lk, reduceIte, Nat.reduceEqDiff, Nat.zero_ne_one, Nat.one_ne_zero])
    rw [c1]
    (repeat (first | rw [s_assoc] | rw [s_seq_reg (by simp [evOps, evOp_n, evOp_r, evOp_d, evOp_dr, kpo_refl, kpo_app, cnd_some, cnd_pair, cnd_cnd_t, cnd_cnd_f, cnd_same, cnd_dvb, cnd_and, cnd_or, ↓evx_pick, gd_bool, gd_boolf, gd_tup, cnd_t, cnd_f, evTo, isCall, evx, put, lk, Od.v, keepEnv, enterEnv, ldx_ref, rdc, binx, binI, binS, unx, eqk, DV.isU, DV.cells, hget, hget0, hset, hset0, stx_ref, splice, DV.one, fillp, mat, eqcs, eqs, e5', e6']; exact ⟨rfl, rfl⟩)] | rw [s_cnd (by simp [lk, keepEnv, Od.v, e5', e6']; exact rfl)] | rw [cnd_t] | rw [cnd_f] | rw [s_skip] | rw [s_ret] | rw [s_exit] | rw [C_ret] | rw [C_exit] | rw [C_skip] | rw [blk_ret] | rw [blk_norm] | rw [blk_exit] | rw [blk_exit' (by decide)] | rw [blkT_ret] | rw [blkT_norm] | rw [blkT_exit] | rw [blkT_exit' (by decide)] | rw [s_blk] | rw [s_reg (by simp [evOps, evOp_n, evOp_r, evOp_d, evOp_dr, kpo_refl, kpo_app, cnd_some, cnd_pair, cnd_cnd_t, cnd_cnd_f, cnd_same, cnd_dvb, cnd_and, cnd_or, ↓evx_pick, gd_bool, gd_boolf, gd_tup, cnd_t, cnd_f, evTo, isCall, evx, put, lk, Od.v, keepEnv, enterEnv, ldx_ref, rdc, binx, binI, binS, unx, eqk, DV.isU, DV.cells, hget, hget0, hset, hset0, stx_ref, splice, DV.one, fillp, mat, eqcs, eqs, e5', e6']; exact ⟨rfl, rfl⟩)] | rw [t_cnd (by simp [lk, keepEnv, Od.v, e5', e6']; exact rfl)] | rw [t_blk]))
    (try simp only [keepEnv, List.map_cons, List.map_nil, lk, reduceIte, Nat.reduceEqDiff, Nat.zero_ne_one, Nat.one_ne_zero])
    rw [c2]
    (repeat (first | rw [s_assoc] | rw [s_seq_reg (by simp [evOps, evOp_n, evOp_r, evOp_d, evOp_dr, kpo_refl, kpo_app, cnd_some, cnd_pair, cnd_cnd_t, cnd_cnd_f, cnd_same, cnd_dvb, cnd_and, cnd_or, ↓evx_pick, gd_bool, gd_boolf, gd_tup, cnd_t, cnd_f, evTo, isCall, evx, put, lk, Od.v, keepEnv, enterEnv, ldx_ref, rdc, binx, binI, binS, unx, eqk, DV.isU, DV.cells, hget, hget0, hset, hset0, stx_ref, splice, DV.one, fillp, mat, eqcs, eqs, e7, e8, e9, z1]; exact ⟨rfl, rfl⟩)] | rw [s_cnd (by simp [lk, keepEnv, Od.v, e7, e8, e9, z1]; exact rfl)] | rw [cnd_t] | rw [cnd_f] | rw [s_skip] | rw [s_ret] | rw [s_exit] | rw [C_ret] | rw [C_exit] | rw [C_skip] | rw [blk_ret] | rw [blk_norm] | rw [blk_exit] | rw [blk_exit' (by decide)] | rw [blkT_ret] | rw [blkT_norm] | rw [blkT_exit] | rw [blkT_exit' (by decide)] | rw [s_blk] | rw [s_reg (by simp [evOps, evOp_n, evOp_r, evOp_d, evOp_dr, kpo_refl, kpo_app, cnd_some, cnd_pair, cnd_cnd_t, cnd_cnd_f, cnd_same, cnd_dvb, cnd_and, cnd_or, ↓evx_pick, gd_bool, gd_boolf, gd_tup, cnd_t, cnd_f, evTo, isCall, evx, put, lk, Od.v, keepEnv, enterEnv, ldx_ref, rdc, binx, binI, binS, unx, eqk, DV.isU, DV.cells, hget, hget0, hset, hset0, stx_ref, splice, DV.one, fillp, mat, eqcs, eqs, e7, e8, e9, z1]; exact ⟨rfl, rfl⟩)] | rw [t_cnd (by simp [lk, keepEnv, Od.v, e7, e8, e9, z1]; exact rfl)] | rw [t_blk]))
    simp only [ends_ret, resL, keepEnv, List.map_cons, List.map_nil, lk, reduceIte, Nat.reduceEqDiff, Option.map_some]
    rw [c3]
end Go.Proofs.Ytmlfhjpajbmajaa
