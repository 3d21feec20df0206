/- Ideal runs: DictDoes. -/
import Derived.Test.YtmlfhjpajbmajaaPlainX
namespace Go.Proofs.Ytmlfhjpajbmajaa
set_option linter.unusedVariables false
set_option linter.unusedSimpArgs false
set_option maxRecDepth 10000
theorem addS_sub {lim : Int} {vs : List V} {v x : V} (h : x ∈ (addS lim vs v).2.2) : x ∈ vs ∨ x = v := by
  unfold addS at h
  split at h
  · split at h
    · exact .inl h
    · split at h
      · exact .inl h
      · simpa using h
  · exact .inl h
theorem loop3 {A : DV} {ls : List V} {o m : Nat} {limit i : Int} {v : V} (hA : ∀ g, vw g 4 A = some (ls.map V.d)) (hb : ls.length ≤ 100) (hls : ∀ x ∈ ls, Sm x) :
    ∀ (n k : Nat) (vs : List V) (L R : DV) (H : Heap), ls.length - k ≤ n → k ≤ ls.length → DictAt H o m L (limOf limit) vs → RefL R vs → Gd vs → vs.length ≤ k → H[0]? = some (.box 24 v.d.cells) → (∀ x ∈ vs, Sm x) →
      ∃ vs' L' R' H' ex, C X (.loop lp3_0) [(0, .int .i64 limit), (1, A), (3, .int .i64 i), (6, .ref 0 0), (12, .ref o 0), (13, R), (14, .int .i64 k)] H = some (.exit 0, (0, .int .i64 limit) :: (1, A) :: (3, .int .i64 i) :: (6, .ref 0 0) :: (12, .ref o 0) :: (13, R') :: ex, H') ∧
        DictAt H' o m L' (limOf limit) vs' ∧ RefL R' vs' ∧ Gd vs' ∧ vs'.length ≤ ls.length ∧ H'[0]? = some (.box 24 v.d.cells) ∧ (∀ x ∈ vs', Sm x) := by
  intro n
  induction n with
  | zero =>
    intro k vs L R H hk hi hd hR hg hl h0 hs
    obtain rfl : k = ls.length := by omega
    refine ⟨vs, L, R, H, [(14, .int .i64 ls.length), (54, .bool false)], ?_, hd, hR, hg, hl, h0, hs⟩
    rw [t_loop]
    unfold lp3_0
    (repeat (first | rw [s_assoc] | rw [s_seq_reg (by simp [evOps, evOp_n, evOp_r, evOp_d, evOp_dr, kpo_refl, kpo_app, cnd_some, cnd_pair, cnd_cnd_t, cnd_cnd_f, cnd_same, cnd_dvb, cnd_and, cnd_or, ↓evx_pick, gd_bool, gd_boolf, gd_tup, cnd_t, cnd_f, evTo, isCall, evx, put, lk, Od.v, keepEnv, enterEnv, ldx_ref, rdc, binx, binI, binS, unx, eqk, DV.isU, DV.cells, hget, hget0, hset, hset0, stx_ref, splice, DV.one, fillp, mat, eqcs, eqs, hA]; exact ⟨rfl, rfl⟩)] | rw [s_cnd (by simp [lk, keepEnv, Od.v, hA]; exact rfl)] | rw [cnd_t] | rw [cnd_f] | rw [s_skip] | rw [s_ret] | rw [s_exit] | rw [C_ret] | rw [C_exit] | rw [C_skip] | rw [blk_ret] | rw [blk_norm] | rw [blk_exit] | rw [blk_exit' (by decide)] | rw [blkT_ret] | rw [blkT_norm] | rw [blkT_exit] | rw [blkT_exit' (by decide)] | rw [s_blk] | rw [s_reg (by simp [evOps, evOp_n, evOp_r, evOp_d, evOp_dr, kpo_refl, kpo_app, cnd_some, cnd_pair, cnd_cnd_t, cnd_cnd_f, cnd_same, cnd_dvb, cnd_and, cnd_or, ↓evx_pick, gd_bool, gd_boolf, gd_tup, cnd_t, cnd_f, evTo, isCall, evx, put, lk, Od.v, keepEnv, enterEnv, ldx_ref, rdc, binx, binI, binS, unx, eqk, DV.isU, DV.cells, hget, hget0, hset, hset0, stx_ref, splice, DV.one, fillp, mat, eqcs, eqs, hA]; exact ⟨rfl, rfl⟩)] | rw [t_cnd (by simp [lk, keepEnv, Od.v, hA]; exact rfl)] | rw [t_blk]))
    rw [lp_exit]
    simp [keepEnv, lk]
  | succ n ih =>
    intro k vs L R H hk hi hd hR hg hl h0 hsm
    by_cases w0 : k < ls.length
    · obtain ⟨K, hK⟩ : ∃ K, K = k + 1 := ⟨_, rfl⟩
      have w1 : IntKind.i64.wrap ((k : Int) + 1) = (K : Int) := (by rw [wrap64 _ (by omega) (by omega)]; omega)
      obtain ⟨u, hu⟩ : ∃ u, u = ls[k] := ⟨_, rfl⟩
      obtain ⟨L1, H1, e1, d1, b1, f1, _⟩ := run12_all hd (limOf_le limit) u
      obtain ⟨R1, hR1, e2⟩ := run13 hR (by omega) limit u H1
      have hg1 := addS_gd (limOf limit) u hg
      have hl1 := addS_len (limOf limit) vs u
      have hs1 : ∀ x ∈ (addS (limOf limit) vs u).2.2, Sm x := fun x hx => by
        rcases addS_sub hx with h | rfl
        · exact hsm x h
        · rw [hu]; exact hls _ (List.getElem_mem _)
      have h01 : H1[0]? = some (.box 24 v.d.cells) := by
        rw [f1 0 (List.getElem?_eq_some_iff.1 h0).1 ?_ ?_ ?_]
        · exact h0
        · rintro rfl; have := h0.symm.trans hd.box; simp at this
        · rintro rfl; have := h0.symm.trans hd.map; simp at this
        · intro hc
          rcases hd.row with ⟨_, rfl⟩ | ⟨q, g, rfl, h2⟩
          · cases hc
          · injection hc with hc; subst hc; have := h0.symm.trans h2; simp at this
      have e3 := run14 d1
      have hv1 := hR1.vw
      generalize addS (limOf limit) vs u = q at e1 e2 e3 d1 hR1 hg1 hl1 hs1 hv1
      obtain ⟨n1, c1, vs1⟩ := q
      simp only at e1 e2 e3 d1 hR1 hg1 hl1 hs1 hv1
      have z1 : (n1 != n1) = false := by simp
      have z2 : (c1 != c1) = false := by simp
      have z3 : ((vs1.length : Int) != vs1.length) = false := by simp
      have hs : C X lp3_0 [(0, .int .i64 limit), (1, A), (3, .int .i64 i), (6, .ref 0 0), (12, .ref o 0), (13, R), (14, .int .i64 k)] H = some (.norm, [(0, .int .i64 limit), (1, A), (3, .int .i64 i), (6, .ref 0 0), (12, .ref o 0), (13, R1), (14, .int .i64 K)], H1) := by
        unfold lp3_0
        (repeat (first | rw [s_assoc] | rw [s_seq_reg (by simp [evOps, evOp_n, evOp_r, evOp_d, evOp_dr, kpo_refl, kpo_app, cnd_some, cnd_pair, cnd_cnd_t, cnd_cnd_f, cnd_same, cnd_dvb, cnd_and, cnd_or, ↓evx_pick, gd_bool, gd_boolf, gd_tup, cnd_t, cnd_f, evTo, isCall, evx, put, lk, Od.v, keepEnv, enterEnv, ldx_ref, rdc, binx, binI, binS, unx, eqk, DV.isU, DV.cells, hget, hget0, hset, hset0, stx_ref, splice, DV.one, fillp, mat, eqcs, eqs, w0, w1, hA, ← hu, ldx, e1, e2, e3, hv1, z1, z2, z3]; exact ⟨rfl, rfl⟩)] | rw [s_cnd (by simp [lk, keepEnv, Od.v, w0, w1, hA, ← hu, ldx, e1, e2, e3, hv1, z1, z2, z3]; exact rfl)] | rw [cnd_t] | rw [cnd_f] | rw [s_skip] | rw [s_ret] | rw [s_exit] | rw [C_ret] | rw [C_exit] | rw [C_skip] | rw [blk_ret] | rw [blk_norm] | rw [blk_exit] | rw [blk_exit' (by decide)] | rw [blkT_ret] | rw [blkT_norm] | rw [blkT_exit] | rw [blkT_exit' (by decide)] | rw [s_blk] | rw [s_reg (by simp [evOps, evOp_n, evOp_r, evOp_d, evOp_dr, kpo_refl, kpo_app, cnd_some, cnd_pair, cnd_cnd_t, cnd_cnd_f, cnd_same, cnd_dvb, cnd_and, cnd_or, ↓evx_pick, gd_bool, gd_boolf, gd_tup, cnd_t, cnd_f, evTo, isCall, evx, put, lk, Od.v, keepEnv, enterEnv, ldx_ref, rdc, binx, binI, binS, unx, eqk, DV.isU, DV.cells, hget, hget0, hset, hset0, stx_ref, splice, DV.one, fillp, mat, eqcs, eqs, w0, w1, hA, ← hu, ldx, e1, e2, e3, hv1, z1, z2, z3]; exact ⟨rfl, rfl⟩)] | rw [t_cnd (by simp [lk, keepEnv, Od.v, w0, w1, hA, ← hu, ldx, e1, e2, e3, hv1, z1, z2, z3]; exact rfl)] | rw [t_blk]))
        simp [keepEnv, lk]
      rw [t_loop, hs, lp_norm]
      exact ih K vs1 L1 R1 H1 (by omega) (by omega) d1 hR1 hg1 (by omega) h01 hs1
    · exact ih k vs L R H (by omega) hi hd hR hg hl h0 hsm
theorem run3 {A : DV} {ls : List V} (limit : Int) (v : V) (i : Int) (hA : A = .list 4 (ls.map V.d) false ∨ (A = .nils ∧ ls = [])) (hls : ∀ x ∈ ls, Sm x) (hv : Sm v) : ∃ h', E X 3 [.int .i64 limit, A, v.d, .int .i64 i] [] = some (.bool true, h') := by
  have hvw : ∀ g, vw g 4 A = some (ls.map V.d) := by
    intro g; rcases hA with rfl | ⟨rfl, rfl⟩ <;> rfl
  have e1 := run9
  have q1 := eltL_v v
  have q2 := Wc_v v
  have q3 := Nr_v v
  obtain ⟨H0, hH0⟩ : ∃ H0 : Heap, H0 = [HO.box 24 [.int .i64 v.k, .int .i64 v.n, .str v.s, .bool v.t]] := ⟨_, rfl⟩
  have h00 : H0[0]? = some (.box 24 [.int .i64 v.k, .int .i64 v.n, .str v.s, .bool v.t]) := by rw [hH0]; rfl
  obtain ⟨b, e2, hb⟩ := run10x H0 hA
  obtain ⟨b', e3, _⟩ := run10 H0 [v] true
  rw [List.map_cons, List.map_nil] at e3
  obtain ⟨ht, hfin⟩ := fin_val [] H0 (d := .bool true) rfl
  cases b with
  | false =>
    refine ⟨ht, ?_⟩
    rw [E_go (X := X) _ b3 _ rfl rfl]; unfold b3
    (repeat (first | rw [s_assoc] | rw [s_seq_reg (by simp [evOps, evOp_n, evOp_r, evOp_d, evOp_dr, kpo_refl, kpo_app, cnd_some, cnd_pair, cnd_cnd_t, cnd_cnd_f, cnd_same, cnd_dvb, cnd_and, cnd_or, ↓evx_pick, gd_bool, gd_boolf, gd_tup, cnd_t, cnd_f, evTo, isCall, evx, put, lk, Od.v, keepEnv, enterEnv, ldx_ref, rdc, binx, binI, binS, unx, eqk, DV.isU, DV.cells, hget, hget0, hset, hset0, stx_ref, splice, DV.one, fillp, mat, eqcs, eqs, ← hH0, h00, e1, e2, e3, q1, q2, q3]; exact ⟨rfl, rfl⟩)] | rw [s_cnd (by simp [lk, keepEnv, Od.v, ← hH0, h00, e1, e2, e3, q1, q2, q3]; exact rfl)] | rw [cnd_t] | rw [cnd_f] | rw [s_skip] | rw [s_ret] | rw [s_exit] | rw [C_ret] | rw [C_exit] | rw [C_skip] | rw [blk_ret] | rw [blk_norm] | rw [blk_exit] | rw [blk_exit' (by decide)] | rw [blkT_ret] | rw [blkT_norm] | rw [blkT_exit] | rw [blkT_exit' (by decide)] | rw [s_blk] | rw [s_reg (by simp [evOps, evOp_n, evOp_r, evOp_d, evOp_dr, kpo_refl, kpo_app, cnd_some, cnd_pair, cnd_cnd_t, cnd_cnd_f, cnd_same, cnd_dvb, cnd_and, cnd_or, ↓evx_pick, gd_bool, gd_boolf, gd_tup, cnd_t, cnd_f, evTo, isCall, evx, put, lk, Od.v, keepEnv, enterEnv, ldx_ref, rdc, binx, binI, binS, unx, eqk, DV.isU, DV.cells, hget, hget0, hset, hset0, stx_ref, splice, DV.one, fillp, mat, eqcs, eqs, ← hH0, h00, e1, e2, e3, q1, q2, q3]; exact ⟨rfl, rfl⟩)] | rw [t_cnd (by simp [lk, keepEnv, Od.v, ← hH0, h00, e1, e2, e3, q1, q2, q3]; exact rfl)] | rw [t_blk]))
    simp only [ends_ret, resL, keepEnv, List.map_cons, List.map_nil, lk, reduceIte, Nat.reduceEqDiff, Option.map_some]
    rw [hfin]
  | true =>
  cases b' with
  | false =>
    refine ⟨ht, ?_⟩
    rw [E_go (X := X) _ b3 _ rfl rfl]; unfold b3
    (repeat (first | rw [s_assoc] | rw [s_seq_reg (by simp [evOps, evOp_n, evOp_r, evOp_d, evOp_dr, kpo_refl, kpo_app, cnd_some, cnd_pair, cnd_cnd_t, cnd_cnd_f, cnd_same, cnd_dvb, cnd_and, cnd_or, ↓evx_pick, gd_bool, gd_boolf, gd_tup, cnd_t, cnd_f, evTo, isCall, evx, put, lk, Od.v, keepEnv, enterEnv, ldx_ref, rdc, binx, binI, binS, unx, eqk, DV.isU, DV.cells, hget, hget0, hset, hset0, stx_ref, splice, DV.one, fillp, mat, eqcs, eqs, ← hH0, h00, e1, e2, e3, q1, q2, q3]; exact ⟨rfl, rfl⟩)] | rw [s_cnd (by simp [lk, keepEnv, Od.v, ← hH0, h00, e1, e2, e3, q1, q2, q3]; exact rfl)] | rw [cnd_t] | rw [cnd_f] | rw [s_skip] | rw [s_ret] | rw [s_exit] | rw [C_ret] | rw [C_exit] | rw [C_skip] | rw [blk_ret] | rw [blk_norm] | rw [blk_exit] | rw [blk_exit' (by decide)] | rw [blkT_ret] | rw [blkT_norm] | rw [blkT_exit] | rw [blkT_exit' (by decide)] | rw [s_blk] | rw [s_reg (by simp [evOps, evOp_n, evOp_r, evOp_d, evOp_dr, kpo_refl, kpo_app, cnd_some, cnd_pair, cnd_cnd_t, cnd_cnd_f, cnd_same, cnd_dvb, cnd_and, cnd_or, ↓evx_pick, gd_bool, gd_boolf, gd_tup, cnd_t, cnd_f, evTo, isCall, evx, put, lk, Od.v, keepEnv, enterEnv, ldx_ref, rdc, binx, binI, binS, unx, eqk, DV.isU, DV.cells, hget, hget0, hset, hset0, stx_ref, splice, DV.one, fillp, mat, eqcs, eqs, ← hH0, h00, e1, e2, e3, q1, q2, q3]; exact ⟨rfl, rfl⟩)] | rw [t_cnd (by simp [lk, keepEnv, Od.v, ← hH0, h00, e1, e2, e3, q1, q2, q3]; exact rfl)] | rw [t_blk]))
    simp only [ends_ret, resL, keepEnv, List.map_cons, List.map_nil, lk, reduceIte, Nat.reduceEqDiff, Option.map_some]
    rw [hfin]
  | true =>
    have hl := hb rfl
    have e4 := run11' limit H0
    have D1 := new_dict limit H0
    have hH0l : H0.length = 1 := by rw [hH0]; rfl
    rw [hH0l] at e4 D1
    have h01 : (H0 ++ [.map 0 0 [], .box 55 [.int .i64 (limOf limit), .nils, .map 1]])[0]? = some (.box 24 v.d.cells) := hle h00 _
    generalize hH1 : H0 ++ [.map 0 0 [], .box 55 [.int .i64 (limOf limit), .nils, .map 1]] = H1 at e4 D1 h01
    obtain ⟨vs, L, R, H2, ex, c1, hd, hR, hg, hvl, h02, hsm⟩ := loop3 (v := v) (i := i) hvw hl hls ls.length 0 [] .nils .nils H1 (by omega) (by omega) D1 (.inr ⟨rfl, rfl⟩) gd_nil (by simp) h01 (by simp)
    rw [show ((0 : Nat) : Int) = 0 from rfl] at c1
    unfold lp3_0 at c1
    have h02' : H2[0]? = some (.box 24 [.int .i64 v.k, .int .i64 v.n, .str v.s, .bool v.t]) := h02
    have h02l := hle h02'
    have hRv := hR.vw
    obtain ⟨S, T, ys, e8, hS, hT, hu, hp⟩ := run18A hd (by omega) hg
    have e9 := fun g => run19 (R := R) hRv (by omega) hsm hu hp g
    have hyl : ys.length = vs.length := hp.length_eq
    have e10 := fun g => run20x (h := g) (A := S) (B := .list 4 (ys.map V.d) false) (xs := ys) (hS g) rfl (by omega)
    have htoS : toS ys vs = (vs.map fun v => (place ys v : Int)).map (.int .i64) := by simp [toS]
    have e11 := fun g => run21 (h := g) (A := T) (B := .list 1 (toS ys vs) false) (xs := vs.map fun v => (place ys v : Int)) (ys := vs.map fun v => (place ys v : Int)) (by rw [hT, htoS]) (by rw [← htoS]; rfl) (by simp; omega)
    have e6 := run16 (h := H2) (A := R) v (fun _ => hRv _) (by omega)
    have e5 := run15 hd v
    have hkk : (v.k == v.k && (v.n == v.n && (v.s == v.s && v.t == v.t))) = true := (V.eqb_iff v v).2 rfl
    by_cases hin : 0 ≤ i ∧ i < vs.length
    · obtain ⟨p, rfl⟩ : ∃ p : Nat, i = p := ⟨i.toNat, by omega⟩
      have hpl : p < vs.length := by omega
      obtain ⟨u, hu'⟩ : ∃ u, u = vs[p] := ⟨_, rfl⟩
      have e7 := run17 hd p (v := u) (by rw [hu']; exact List.getElem?_eq_getElem hpl)
      have z1 : (0 : Int) ≤ (p : Int) := by omega
      cases hf : fnd v vs 0 with
      | none =>
        rw [hf] at e5 e6
        obtain ⟨ht2, hfin2⟩ := fin_val [] (H2 ++ [HO.box 24 [.int .i64 u.k, .int .i64 u.n, .str u.s, .bool u.t]]) (d := .bool true) rfl
        refine ⟨ht2, ?_⟩
        rw [E_go (X := X) _ b3 _ rfl rfl]; unfold b3
        (repeat (first | rw [s_assoc] | rw [s_seq_reg (by simp [evOps, evOp_n, evOp_r, evOp_d, evOp_dr, kpo_refl, kpo_app, cnd_some, cnd_pair, cnd_cnd_t, cnd_cnd_f, cnd_same, cnd_dvb, cnd_and, cnd_or, ↓evx_pick, gd_bool, gd_boolf, gd_tup, cnd_t, cnd_f, evTo, isCall, evx, put, lk, Od.v, keepEnv, enterEnv, ldx_ref, rdc, binx, binI, binS, unx, eqk, DV.isU, DV.cells, hget, hget0, hset, hset0, stx_ref, splice, DV.one, fillp, mat, eqcs, eqs, ← hH0, h00, e1, e2, e3, e4, q1, q2, q3]; exact ⟨rfl, rfl⟩)] | rw [s_cnd (by simp [lk, keepEnv, Od.v, ← hH0, h00, e1, e2, e3, e4, q1, q2, q3]; exact rfl)] | rw [cnd_t] | rw [cnd_f] | rw [s_skip] | rw [s_ret] | rw [s_exit] | rw [C_ret] | rw [C_exit] | rw [C_skip] | rw [blk_ret] | rw [blk_norm] | rw [blk_exit] | rw [blk_exit' (by decide)] | rw [blkT_ret] | rw [blkT_norm] | rw [blkT_exit] | rw [blkT_exit' (by decide)] | rw [s_blk] | rw [s_reg (by simp [evOps, evOp_n, evOp_r, evOp_d, evOp_dr, kpo_refl, kpo_app, cnd_some, cnd_pair, cnd_cnd_t, cnd_cnd_f, cnd_same, cnd_dvb, cnd_and, cnd_or, ↓evx_pick, gd_bool, gd_boolf, gd_tup, cnd_t, cnd_f, evTo, isCall, evx, put, lk, Od.v, keepEnv, enterEnv, ldx_ref, rdc, binx, binI, binS, unx, eqk, DV.isU, DV.cells, hget, hget0, hset, hset0, stx_ref, splice, DV.one, fillp, mat, eqcs, eqs, ← hH0, h00, e1, e2, e3, e4, q1, q2, q3]; exact ⟨rfl, rfl⟩)] | rw [t_cnd (by simp [lk, keepEnv, Od.v, ← hH0, h00, e1, e2, e3, e4, q1, q2, q3]; exact rfl)] | rw [t_blk]))
        (try simp only [keepEnv, List.map_cons, List.map_nil, lk, reduceIte, Nat.reduceEqDiff, Nat.zero_ne_one, Nat.one_ne_zero])
        rw [c1]
        (repeat (first | rw [s_assoc] | rw [s_seq_reg (by simp [evOps, evOp_n, evOp_r, evOp_d, evOp_dr, kpo_refl, kpo_app, cnd_some, cnd_pair, cnd_cnd_t, cnd_cnd_f, cnd_same, cnd_dvb, cnd_and, cnd_or, ↓evx_pick, gd_bool, gd_boolf, gd_tup, cnd_t, cnd_f, evTo, isCall, evx, put, lk, Od.v, keepEnv, enterEnv, ldx_ref, rdc, binx, binI, binS, unx, eqk, DV.isU, DV.cells, hget, hget0, hset, hset0, stx_ref, splice, DV.one, fillp, mat, eqcs, eqs, h02', h02l, e5, e6, e7, e8, e9, e10, e11, z1, hpl, hRv, ← hu', ldx, beq_bytes]; exact ⟨rfl, rfl⟩)] | rw [s_cnd (by simp [lk, keepEnv, Od.v, h02', h02l, e5, e6, e7, e8, e9, e10, e11, z1, hpl, hRv, ← hu', ldx, beq_bytes]; exact rfl)] | rw [cnd_t] | rw [cnd_f] | rw [s_skip] | rw [s_ret] | rw [s_exit] | rw [C_ret] | rw [C_exit] | rw [C_skip] | rw [blk_ret] | rw [blk_norm] | rw [blk_exit] | rw [blk_exit' (by decide)] | rw [blkT_ret] | rw [blkT_norm] | rw [blkT_exit] | rw [blkT_exit' (by decide)] | rw [s_blk] | rw [s_reg (by simp [evOps, evOp_n, evOp_r, evOp_d, evOp_dr, kpo_refl, kpo_app, cnd_some, cnd_pair, cnd_cnd_t, cnd_cnd_f, cnd_same, cnd_dvb, cnd_and, cnd_or, ↓evx_pick, gd_bool, gd_boolf, gd_tup, cnd_t, cnd_f, evTo, isCall, evx, put, lk, Od.v, keepEnv, enterEnv, ldx_ref, rdc, binx, binI, binS, unx, eqk, DV.isU, DV.cells, hget, hget0, hset, hset0, stx_ref, splice, DV.one, fillp, mat, eqcs, eqs, h02', h02l, e5, e6, e7, e8, e9, e10, e11, z1, hpl, hRv, ← hu', ldx, beq_bytes]; exact ⟨rfl, rfl⟩)] | rw [t_cnd (by simp [lk, keepEnv, Od.v, h02', h02l, e5, e6, e7, e8, e9, e10, e11, z1, hpl, hRv, ← hu', ldx, beq_bytes]; exact rfl)] | rw [t_blk]))
        simp only [ends_ret, resL, keepEnv, List.map_cons, List.map_nil, lk, reduceIte, Nat.reduceEqDiff, Option.map_some]
        rw [hfin2]
      | some j =>
        rw [hf] at e5 e6
        have z2 : (0 : Int) ≤ (j : Int) := by omega
        obtain ⟨ht2, hfin2⟩ := fin_val [] (H2 ++ [HO.box 24 [.int .i64 u.k, .int .i64 u.n, .str u.s, .bool u.t]]) (d := .bool true) rfl
        refine ⟨ht2, ?_⟩
        rw [E_go (X := X) _ b3 _ rfl rfl]; unfold b3
        (repeat (first | rw [s_assoc] | rw [s_seq_reg (by simp [evOps, evOp_n, evOp_r, evOp_d, evOp_dr, kpo_refl, kpo_app, cnd_some, cnd_pair, cnd_cnd_t, cnd_cnd_f, cnd_same, cnd_dvb, cnd_and, cnd_or, ↓evx_pick, gd_bool, gd_boolf, gd_tup, cnd_t, cnd_f, evTo, isCall, evx, put, lk, Od.v, keepEnv, enterEnv, ldx_ref, rdc, binx, binI, binS, unx, eqk, DV.isU, DV.cells, hget, hget0, hset, hset0, stx_ref, splice, DV.one, fillp, mat, eqcs, eqs, ← hH0, h00, e1, e2, e3, e4, q1, q2, q3]; exact ⟨rfl, rfl⟩)] | rw [s_cnd (by simp [lk, keepEnv, Od.v, ← hH0, h00, e1, e2, e3, e4, q1, q2, q3]; exact rfl)] | rw [cnd_t] | rw [cnd_f] | rw [s_skip] | rw [s_ret] | rw [s_exit] | rw [C_ret] | rw [C_exit] | rw [C_skip] | rw [blk_ret] | rw [blk_norm] | rw [blk_exit] | rw [blk_exit' (by decide)] | rw [blkT_ret] | rw [blkT_norm] | rw [blkT_exit] | rw [blkT_exit' (by decide)] | rw [s_blk] | rw [s_reg (by simp [evOps, evOp_n, evOp_r, evOp_d, evOp_dr, kpo_refl, kpo_app, cnd_some, cnd_pair, cnd_cnd_t, cnd_cnd_f, cnd_same, cnd_dvb, cnd_and, cnd_or, ↓evx_pick, gd_bool, gd_boolf, gd_tup, cnd_t, cnd_f, evTo, isCall, evx, put, lk, Od.v, keepEnv, enterEnv, ldx_ref, rdc, binx, binI, binS, unx, eqk, DV.isU, DV.cells, hget, hget0, hset, hset0, stx_ref, splice, DV.one, fillp, mat, eqcs, eqs, ← hH0, h00, e1, e2, e3, e4, q1, q2, q3]; exact ⟨rfl, rfl⟩)] | rw [t_cnd (by simp [lk, keepEnv, Od.v, ← hH0, h00, e1, e2, e3, e4, q1, q2, q3]; exact rfl)] | rw [t_blk]))
        (try simp only [keepEnv, List.map_cons, List.map_nil, lk, reduceIte, Nat.reduceEqDiff, Nat.zero_ne_one, Nat.one_ne_zero])
        rw [c1]
        (repeat (first | rw [s_assoc] | rw [s_seq_reg (by simp [evOps, evOp_n, evOp_r, evOp_d, evOp_dr, kpo_refl, kpo_app, cnd_some, cnd_pair, cnd_cnd_t, cnd_cnd_f, cnd_same, cnd_dvb, cnd_and, cnd_or, ↓evx_pick, gd_bool, gd_boolf, gd_tup, cnd_t, cnd_f, evTo, isCall, evx, put, lk, Od.v, keepEnv, enterEnv, ldx_ref, rdc, binx, binI, binS, unx, eqk, DV.isU, DV.cells, hget, hget0, hset, hset0, stx_ref, splice, DV.one, fillp, mat, eqcs, eqs, h02', h02l, e5, e6, e7, e8, e9, e10, e11, z1, z2, hpl, hRv, ← hu', ldx, beq_bytes]; exact ⟨rfl, rfl⟩)] | rw [s_cnd (by simp [lk, keepEnv, Od.v, h02', h02l, e5, e6, e7, e8, e9, e10, e11, z1, z2, hpl, hRv, ← hu', ldx, beq_bytes]; exact rfl)] | rw [cnd_t] | rw [cnd_f] | rw [s_skip] | rw [s_ret] | rw [s_exit] | rw [C_ret] | rw [C_exit] | rw [C_skip] | rw [blk_ret] | rw [blk_norm] | rw [blk_exit] | rw [blk_exit' (by decide)] | rw [blkT_ret] | rw [blkT_norm] | rw [blkT_exit] | rw [blkT_exit' (by decide)] | rw [s_blk] | rw [s_reg (by simp [evOps, evOp_n, evOp_r, evOp_d, evOp_dr, kpo_refl, kpo_app, cnd_some, cnd_pair, cnd_cnd_t, cnd_cnd_f, cnd_same, cnd_dvb, cnd_and, cnd_or, ↓evx_pick, gd_bool, gd_boolf, gd_tup, cnd_t, cnd_f, evTo, isCall, evx, put, lk, Od.v, keepEnv, enterEnv, ldx_ref, rdc, binx, binI, binS, unx, eqk, DV.isU, DV.cells, hget, hget0, hset, hset0, stx_ref, splice, DV.one, fillp, mat, eqcs, eqs, h02', h02l, e5, e6, e7, e8, e9, e10, e11, z1, z2, hpl, hRv, ← hu', ldx, beq_bytes]; exact ⟨rfl, rfl⟩)] | rw [t_cnd (by simp [lk, keepEnv, Od.v, h02', h02l, e5, e6, e7, e8, e9, e10, e11, z1, z2, hpl, hRv, ← hu', ldx, beq_bytes]; exact rfl)] | rw [t_blk]))
        simp only [ends_ret, resL, keepEnv, List.map_cons, List.map_nil, lk, reduceIte, Nat.reduceEqDiff, Option.map_some]
        rw [hfin2]
    · have e7 := run17_out hd i (by omega)
      have z1 : ¬ (0 ≤ i ∧ i < vs.length) := hin
      obtain ⟨t1, ht1⟩ : ∃ t1 : Bool, t1 = (decide (0 ≤ i) && decide (i < vs.length)) := ⟨_, rfl⟩
      have ht1' : (decide (0 ≤ i) && decide (i < (vs.length : Int))) = false := by
        by_cases a : 0 ≤ i
        · have : ¬ i < vs.length := fun h => hin ⟨a, h⟩
          simp [this]
        · simp [a]
      cases hf : fnd v vs 0 with
      | none =>
        rw [hf] at e5 e6
        obtain ⟨ht2, hfin2⟩ := fin_val [] (H2 ++ [HO.box 24 [.int .i64 0, .int .i64 0, .str ⟨#[]⟩, .bool false]]) (d := .bool true) rfl
        refine ⟨ht2, ?_⟩
        rw [E_go (X := X) _ b3 _ rfl rfl]; unfold b3
        (repeat (first | rw [s_assoc] | rw [s_seq_reg (by simp [evOps, evOp_n, evOp_r, evOp_d, evOp_dr, kpo_refl, kpo_app, cnd_some, cnd_pair, cnd_cnd_t, cnd_cnd_f, cnd_same, cnd_dvb, cnd_and, cnd_or, ↓evx_pick, gd_bool, gd_boolf, gd_tup, cnd_t, cnd_f, evTo, isCall, evx, put, lk, Od.v, keepEnv, enterEnv, ldx_ref, rdc, binx, binI, binS, unx, eqk, DV.isU, DV.cells, hget, hget0, hset, hset0, stx_ref, splice, DV.one, fillp, mat, eqcs, eqs, ← hH0, h00, e1, e2, e3, e4, q1, q2, q3]; exact ⟨rfl, rfl⟩)] | rw [s_cnd (by simp [lk, keepEnv, Od.v, ← hH0, h00, e1, e2, e3, e4, q1, q2, q3]; exact rfl)] | rw [cnd_t] | rw [cnd_f] | rw [s_skip] | rw [s_ret] | rw [s_exit] | rw [C_ret] | rw [C_exit] | rw [C_skip] | rw [blk_ret] | rw [blk_norm] | rw [blk_exit] | rw [blk_exit' (by decide)] | rw [blkT_ret] | rw [blkT_norm] | rw [blkT_exit] | rw [blkT_exit' (by decide)] | rw [s_blk] | rw [s_reg (by simp [evOps, evOp_n, evOp_r, evOp_d, evOp_dr, kpo_refl, kpo_app, cnd_some, cnd_pair, cnd_cnd_t, cnd_cnd_f, cnd_same, cnd_dvb, cnd_and, cnd_or, ↓evx_pick, gd_bool, gd_boolf, gd_tup, cnd_t, cnd_f, evTo, isCall, evx, put, lk, Od.v, keepEnv, enterEnv, ldx_ref, rdc, binx, binI, binS, unx, eqk, DV.isU, DV.cells, hget, hget0, hset, hset0, stx_ref, splice, DV.one, fillp, mat, eqcs, eqs, ← hH0, h00, e1, e2, e3, e4, q1, q2, q3]; exact ⟨rfl, rfl⟩)] | rw [t_cnd (by simp [lk, keepEnv, Od.v, ← hH0, h00, e1, e2, e3, e4, q1, q2, q3]; exact rfl)] | rw [t_blk]))
        (try simp only [keepEnv, List.map_cons, List.map_nil, lk, reduceIte, Nat.reduceEqDiff, Nat.zero_ne_one, Nat.one_ne_zero])
        rw [c1]
        by_cases a : 0 ≤ i
        · have a2 : ¬ i < vs.length := fun h => hin ⟨a, h⟩
          (repeat (first | rw [s_assoc] | rw [s_seq_reg (by simp [evOps, evOp_n, evOp_r, evOp_d, evOp_dr, kpo_refl, kpo_app, cnd_some, cnd_pair, cnd_cnd_t, cnd_cnd_f, cnd_same, cnd_dvb, cnd_and, cnd_or, ↓evx_pick, gd_bool, gd_boolf, gd_tup, cnd_t, cnd_f, evTo, isCall, evx, put, lk, Od.v, keepEnv, enterEnv, ldx_ref, rdc, binx, binI, binS, unx, eqk, DV.isU, DV.cells, hget, hget0, hset, hset0, stx_ref, splice, DV.one, fillp, mat, eqcs, eqs, h02', h02l, e5, e6, e7, e8, e9, e10, e11, a, a2, hRv, V0, beq_bytes]; exact ⟨rfl, rfl⟩)] | rw [s_cnd (by simp [lk, keepEnv, Od.v, h02', h02l, e5, e6, e7, e8, e9, e10, e11, a, a2, hRv, V0, beq_bytes]; exact rfl)] | rw [cnd_t] | rw [cnd_f] | rw [s_skip] | rw [s_ret] | rw [s_exit] | rw [C_ret] | rw [C_exit] | rw [C_skip] | rw [blk_ret] | rw [blk_norm] | rw [blk_exit] | rw [blk_exit' (by decide)] | rw [blkT_ret] | rw [blkT_norm] | rw [blkT_exit] | rw [blkT_exit' (by decide)] | rw [s_blk] | rw [s_reg (by simp [evOps, evOp_n, evOp_r, evOp_d, evOp_dr, kpo_refl, kpo_app, cnd_some, cnd_pair, cnd_cnd_t, cnd_cnd_f, cnd_same, cnd_dvb, cnd_and, cnd_or, ↓evx_pick, gd_bool, gd_boolf, gd_tup, cnd_t, cnd_f, evTo, isCall, evx, put, lk, Od.v, keepEnv, enterEnv, ldx_ref, rdc, binx, binI, binS, unx, eqk, DV.isU, DV.cells, hget, hget0, hset, hset0, stx_ref, splice, DV.one, fillp, mat, eqcs, eqs, h02', h02l, e5, e6, e7, e8, e9, e10, e11, a, a2, hRv, V0, beq_bytes]; exact ⟨rfl, rfl⟩)] | rw [t_cnd (by simp [lk, keepEnv, Od.v, h02', h02l, e5, e6, e7, e8, e9, e10, e11, a, a2, hRv, V0, beq_bytes]; exact rfl)] | rw [t_blk]))
          simp only [ends_ret, resL, keepEnv, List.map_cons, List.map_nil, lk, reduceIte, Nat.reduceEqDiff, Option.map_some]
          rw [hfin2]
        · (repeat (first | rw [s_assoc] | rw [s_seq_reg (by simp [evOps, evOp_n, evOp_r, evOp_d, evOp_dr, kpo_refl, kpo_app, cnd_some, cnd_pair, cnd_cnd_t, cnd_cnd_f, cnd_same, cnd_dvb, cnd_and, cnd_or, ↓evx_pick, gd_bool, gd_boolf, gd_tup, cnd_t, cnd_f, evTo, isCall, evx, put, lk, Od.v, keepEnv, enterEnv, ldx_ref, rdc, binx, binI, binS, unx, eqk, DV.isU, DV.cells, hget, hget0, hset, hset0, stx_ref, splice, DV.one, fillp, mat, eqcs, eqs, h02', h02l, e5, e6, e7, e8, e9, e10, e11, a, hRv, V0, beq_bytes]; exact ⟨rfl, rfl⟩)] | rw [s_cnd (by simp [lk, keepEnv, Od.v, h02', h02l, e5, e6, e7, e8, e9, e10, e11, a, hRv, V0, beq_bytes]; exact rfl)] | rw [cnd_t] | rw [cnd_f] | rw [s_skip] | rw [s_ret] | rw [s_exit] | rw [C_ret] | rw [C_exit] | rw [C_skip] | rw [blk_ret] | rw [blk_norm] | rw [blk_exit] | rw [blk_exit' (by decide)] | rw [blkT_ret] | rw [blkT_norm] | rw [blkT_exit] | rw [blkT_exit' (by decide)] | rw [s_blk] | rw [s_reg (by simp [evOps, evOp_n, evOp_r, evOp_d, evOp_dr, kpo_refl, kpo_app, cnd_some, cnd_pair, cnd_cnd_t, cnd_cnd_f, cnd_same, cnd_dvb, cnd_and, cnd_or, ↓evx_pick, gd_bool, gd_boolf, gd_tup, cnd_t, cnd_f, evTo, isCall, evx, put, lk, Od.v, keepEnv, enterEnv, ldx_ref, rdc, binx, binI, binS, unx, eqk, DV.isU, DV.cells, hget, hget0, hset, hset0, stx_ref, splice, DV.one, fillp, mat, eqcs, eqs, h02', h02l, e5, e6, e7, e8, e9, e10, e11, a, hRv, V0, beq_bytes]; exact ⟨rfl, rfl⟩)] | rw [t_cnd (by simp [lk, keepEnv, Od.v, h02', h02l, e5, e6, e7, e8, e9, e10, e11, a, hRv, V0, beq_bytes]; exact rfl)] | rw [t_blk]))
          simp only [ends_ret, resL, keepEnv, List.map_cons, List.map_nil, lk, reduceIte, Nat.reduceEqDiff, Option.map_some]
          rw [hfin2]
      | some j =>
        rw [hf] at e5 e6
        have z2 : (0 : Int) ≤ (j : Int) := by omega
        obtain ⟨ht2, hfin2⟩ := fin_val [] (H2 ++ [HO.box 24 [.int .i64 0, .int .i64 0, .str ⟨#[]⟩, .bool false]]) (d := .bool true) rfl
        refine ⟨ht2, ?_⟩
        rw [E_go (X := X) _ b3 _ rfl rfl]; unfold b3
        (repeat (first | rw [s_assoc] | rw [s_seq_reg (by simp [evOps, evOp_n, evOp_r, evOp_d, evOp_dr, kpo_refl, kpo_app, cnd_some, cnd_pair, cnd_cnd_t, cnd_cnd_f, cnd_same, cnd_dvb, cnd_and, cnd_or, ↓evx_pick, gd_bool, gd_boolf, gd_tup, cnd_t, cnd_f, evTo, isCall, evx, put, lk, Od.v, keepEnv, enterEnv, ldx_ref, rdc, binx, binI, binS, unx, eqk, DV.isU, DV.cells, hget, hget0, hset, hset0, stx_ref, splice, DV.one, fillp, mat, eqcs, eqs, ← hH0, h00, e1, e2, e3, e4, q1, q2, q3]; exact ⟨rfl, rfl⟩)] | rw [s_cnd (by simp [lk, keepEnv, Od.v, ← hH0, h00, e1, e2, e3, e4, q1, q2, q3]; exact rfl)] | rw [cnd_t] | rw [cnd_f] | rw [s_skip] | rw [s_ret] | rw [s_exit] | rw [C_ret] | rw [C_exit] | rw [C_skip] | rw [blk_ret] | rw [blk_norm] | rw [blk_exit] | rw [blk_exit' (by decide)] | rw [blkT_ret] | rw [blkT_norm] | rw [blkT_exit] | rw [blkT_exit' (by decide)] | rw [s_blk] | rw [s_reg (by simp [evOps, evOp_n, evOp_r, evOp_d, evOp_dr, kpo_refl, kpo_app, cnd_some, cnd_pair, cnd_cnd_t, cnd_cnd_f, cnd_same, cnd_dvb, cnd_and, cnd_or, ↓evx_pick, gd_bool, gd_boolf, gd_tup, cnd_t, cnd_f, evTo, isCall, evx, put, lk, Od.v, keepEnv, enterEnv, ldx_ref, rdc, binx, binI, binS, unx, eqk, DV.isU, DV.cells, hget, hget0, hset, hset0, stx_ref, splice, DV.one, fillp, mat, eqcs, eqs, ← hH0, h00, e1, e2, e3, e4, q1, q2, q3]; exact ⟨rfl, rfl⟩)] | rw [t_cnd (by simp [lk, keepEnv, Od.v, ← hH0, h00, e1, e2, e3, e4, q1, q2, q3]; exact rfl)] | rw [t_blk]))
        (try simp only [keepEnv, List.map_cons, List.map_nil, lk, reduceIte, Nat.reduceEqDiff, Nat.zero_ne_one, Nat.one_ne_zero])
        rw [c1]
        by_cases a : 0 ≤ i
        · have a2 : ¬ i < vs.length := fun h => hin ⟨a, h⟩
          (repeat (first | rw [s_assoc] | rw [s_seq_reg (by simp [evOps, evOp_n, evOp_r, evOp_d, evOp_dr, kpo_refl, kpo_app, cnd_some, cnd_pair, cnd_cnd_t, cnd_cnd_f, cnd_same, cnd_dvb, cnd_and, cnd_or, ↓evx_pick, gd_bool, gd_boolf, gd_tup, cnd_t, cnd_f, evTo, isCall, evx, put, lk, Od.v, keepEnv, enterEnv, ldx_ref, rdc, binx, binI, binS, unx, eqk, DV.isU, DV.cells, hget, hget0, hset, hset0, stx_ref, splice, DV.one, fillp, mat, eqcs, eqs, h02', h02l, e5, e6, e7, e8, e9, e10, e11, a, a2, z2, hRv, V0, beq_bytes]; exact ⟨rfl, rfl⟩)] | rw [s_cnd (by simp [lk, keepEnv, Od.v, h02', h02l, e5, e6, e7, e8, e9, e10, e11, a, a2, z2, hRv, V0, beq_bytes]; exact rfl)] | rw [cnd_t] | rw [cnd_f] | rw [s_skip] | rw [s_ret] | rw [s_exit] | rw [C_ret] | rw [C_exit] | rw [C_skip] | rw [blk_ret] | rw [blk_norm] | rw [blk_exit] | rw [blk_exit' (by decide)] | rw [blkT_ret] | rw [blkT_norm] | rw [blkT_exit] | rw [blkT_exit' (by decide)] | rw [s_blk] | rw [s_reg (by simp [evOps, evOp_n, evOp_r, evOp_d, evOp_dr, kpo_refl, kpo_app, cnd_some, cnd_pair, cnd_cnd_t, cnd_cnd_f, cnd_same, cnd_dvb, cnd_and, cnd_or, ↓evx_pick, gd_bool, gd_boolf, gd_tup, cnd_t, cnd_f, evTo, isCall, evx, put, lk, Od.v, keepEnv, enterEnv, ldx_ref, rdc, binx, binI, binS, unx, eqk, DV.isU, DV.cells, hget, hget0, hset, hset0, stx_ref, splice, DV.one, fillp, mat, eqcs, eqs, h02', h02l, e5, e6, e7, e8, e9, e10, e11, a, a2, z2, hRv, V0, beq_bytes]; exact ⟨rfl, rfl⟩)] | rw [t_cnd (by simp [lk, keepEnv, Od.v, h02', h02l, e5, e6, e7, e8, e9, e10, e11, a, a2, z2, hRv, V0, beq_bytes]; exact rfl)] | rw [t_blk]))
          simp only [ends_ret, resL, keepEnv, List.map_cons, List.map_nil, lk, reduceIte, Nat.reduceEqDiff, Option.map_some]
          rw [hfin2]
        · (repeat (first | rw [s_assoc] | rw [s_seq_reg (by simp [evOps, evOp_n, evOp_r, evOp_d, evOp_dr, kpo_refl, kpo_app, cnd_some, cnd_pair, cnd_cnd_t, cnd_cnd_f, cnd_same, cnd_dvb, cnd_and, cnd_or, ↓evx_pick, gd_bool, gd_boolf, gd_tup, cnd_t, cnd_f, evTo, isCall, evx, put, lk, Od.v, keepEnv, enterEnv, ldx_ref, rdc, binx, binI, binS, unx, eqk, DV.isU, DV.cells, hget, hget0, hset, hset0, stx_ref, splice, DV.one, fillp, mat, eqcs, eqs, h02', h02l, e5, e6, e7, e8, e9, e10, e11, a, z2, hRv, V0, beq_bytes]; exact ⟨rfl, rfl⟩)] | rw [s_cnd (by simp [lk, keepEnv, Od.v, h02', h02l, e5, e6, e7, e8, e9, e10, e11, a, z2, hRv, V0, beq_bytes]; exact rfl)] | rw [cnd_t] | rw [cnd_f] | rw [s_skip] | rw [s_ret] | rw [s_exit] | rw [C_ret] | rw [C_exit] | rw [C_skip] | rw [blk_ret] | rw [blk_norm] | rw [blk_exit] | rw [blk_exit' (by decide)] | rw [blkT_ret] | rw [blkT_norm] | rw [blkT_exit] | rw [blkT_exit' (by decide)] | rw [s_blk] | rw [s_reg (by simp [evOps, evOp_n, evOp_r, evOp_d, evOp_dr, kpo_refl, kpo_app, cnd_some, cnd_pair, cnd_cnd_t, cnd_cnd_f, cnd_same, cnd_dvb, cnd_and, cnd_or, ↓evx_pick, gd_bool, gd_boolf, gd_tup, cnd_t, cnd_f, evTo, isCall, evx, put, lk, Od.v, keepEnv, enterEnv, ldx_ref, rdc, binx, binI, binS, unx, eqk, DV.isU, DV.cells, hget, hget0, hset, hset0, stx_ref, splice, DV.one, fillp, mat, eqcs, eqs, h02', h02l, e5, e6, e7, e8, e9, e10, e11, a, z2, hRv, V0, beq_bytes]; exact ⟨rfl, rfl⟩)] | rw [t_cnd (by simp [lk, keepEnv, Od.v, h02', h02l, e5, e6, e7, e8, e9, e10, e11, a, z2, hRv, V0, beq_bytes]; exact rfl)] | rw [t_blk]))
          simp only [ends_ret, resL, keepEnv, List.map_cons, List.map_nil, lk, reduceIte, Nat.reduceEqDiff, Option.map_some]
          rw [hfin2]
end Go.Proofs.Ytmlfhjpajbmajaa
