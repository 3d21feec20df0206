/- Ideal runs: a value is added to the dictionary. -/
import Derived.Test.YtmlfhjpajbmajaaPlainD
namespace Go.Proofs.Ytmlfhjpajbmajaa
set_option linter.unusedVariables false
set_option linter.unusedSimpArgs false
set_option maxRecDepth 10000
/-- Is a place the row of a slice? -/
def rowOf : DV → Option Nat
  | .row r _ _ _ _ => some r
  | _ => none
theorem run12_add {H : Heap} {o m : Nat} {L : DV} {lim : Int} {vs : List V} (hd : DictAt H o m L lim vs) (v : V) (hm : mayV v = true) (hf : fnd v vs 0 = none) (hl : (vs.length : Int) < lim) (hb : lim ≤ 4096) :
    ∃ L' H', E X 12 [.ref o 0, v.d] H = some (.tup [.int .i64 vs.length, .int .i64 0], H') ∧ DictAt H' o m L' lim (vs ++ [v]) ∧ H.length ≤ H'.length ∧
      (∀ i < H.length, i ≠ o → i ≠ m → rowOf L ≠ some i → H'[i]? = H[i]?) ∧ (rowOf L' = rowOf L ∨ ∃ r, rowOf L' = some r ∧ H.length ≤ r) := by
  have e1 := fun l => run15 (hd.app l) v
  have e2 := hd.len
  have e3 := hle hd.box
  have e4 := hle hd.map
  have n1 : ¬ lim ≤ vs.length := by omega
  have ho : o < H.length := (List.getElem?_eq_some_iff.1 hd.box).1
  have hm' : m < H.length := (List.getElem?_eq_some_iff.1 hd.map).1
  have hom : o ≠ m := by
    rintro rfl
    have := hd.box.symm.trans hd.map
    simp at this
  have hput := mput_ents v vs 0 hf
  rw [Nat.zero_add] at hput
  have w1 : IntKind.i64.wrap (vs.length : Int) = vs.length := wrap64 _ (by omega) (by omega)
  generalize hh1 : (H ++ [HO.box 24 [.int .i64 v.k, .int .i64 v.n, .str v.s, .bool v.t]]).set m (.map 0 0 (ents (vs ++ [v]) 0)) = h1
  have l1 : h1.length = H.length + 1 := by rw [← hh1]; simp
  have f1 : h1[o]? = some (.box 55 [.int .i64 lim, L, .map m]) := by
    rw [← hh1, List.getElem?_set_ne (Ne.symm hom)]; exact e3 [HO.box 24 [.int .i64 v.k, .int .i64 v.n, .str v.s, .bool v.t]]
  have f2 : h1[H.length]? = some (HO.box 24 [.int .i64 v.k, .int .i64 v.n, .str v.s, .bool v.t]) := by
    rw [← hh1, List.getElem?_set_ne (by omega)]; simp
  have f3 : vw h1 4 L = some (vs.map V.d) := by
    rcases hd.row with ⟨rfl, rfl⟩ | ⟨r, g, rfl, e⟩
    · rfl
    · have : r ≠ m := by
        rintro rfl
        have := e.symm.trans hd.map
        simp at this
      have : h1[r]? = some (.row 24 4 g (vs.map V.d)) := by
        rw [← hh1, List.getElem?_set_ne (Ne.symm this)]; exact hle e [HO.box 24 [.int .i64 v.k, .int .i64 v.n, .str v.s, .bool v.t]]
      simp [vw, this, List.take_of_length_le]
  have fx : ∀ i < H.length, i ≠ m → h1[i]? = H[i]? := fun i hi hne => by
    rw [← hh1, List.getElem?_set_ne (Ne.symm hne), List.getElem?_append_left hi]
  obtain ⟨L', h2, hap, a1, a2, a3, a4, a5⟩ : ∃ L' h2, appx h1 24 4 40 L (vs.map V.d) [v.d] = some (L', h2) ∧ h1.length ≤ h2.length ∧ (∀ i < h1.length, rowOf L ≠ some i → h2[i]? = h1[i]?) ∧ (rowOf L' = rowOf L ∨ ∃ r, rowOf L' = some r ∧ h1.length ≤ r) ∧ (∃ r g, L' = .row r g 0 (vs.length + 1) false ∧ h2[r]? = some (.row 24 4 g ((vs ++ [v]).map V.d))) ∧ rowOf L' ≠ some o := by
    have hle' : ((vs.map V.d).length + [v.d].length) * 40 ≤ 140737488355328 := by simp; omega
    rcases hd.row with ⟨rfl, rfl⟩ | ⟨r, g, rfl, e⟩
    · refine ⟨.row h1.length 0 0 1 false, h1 ++ [.row 24 4 0 [v.d]], ?_, by simp, fun i hi _ => List.getElem?_append_left hi, .inr ⟨_, rfl, Nat.le_refl _⟩, ⟨h1.length, 0, rfl, by simp⟩, ?_⟩
      · simp [appx]
      · simp only [rowOf]; intro h; injection h with h; omega
    · have hrm : r ≠ m := by
        rintro rfl
        have := e.symm.trans hd.map
        simp at this
      have hro : r ≠ o := by
        rintro rfl
        have := e.symm.trans hd.box
        simp at this
      have er : h1[r]? = some (.row 24 4 g (vs.map V.d)) := by
        rw [← hh1, List.getElem?_set_ne (Ne.symm hrm)]; exact hle e [HO.box 24 [.int .i64 v.k, .int .i64 v.n, .str v.s, .bool v.t]]
      have hr : r < h1.length := (List.getElem?_eq_some_iff.1 er).1
      refine ⟨.row r (g + 1) 0 (vs.length + 1) false, h1.set r (.row 24 4 (g + 1) (vs.map V.d ++ [v.d])), ?_, by simp, ?_, .inl rfl, ⟨r, g + 1, rfl, ?_⟩, ?_⟩
      · simp only [appx, if_pos hle', er]
        simp
      · intro i hi hne
        refine List.getElem?_set_ne ?_
        rintro rfl
        exact hne rfl
      · rw [List.getElem?_set_self hr]; simp
      · simp only [rowOf]; intro h; injection h with h; exact hro h
  have g1 : h2[o]? = some (.box 55 [.int .i64 lim, L, .map m]) := by
    rw [a2 o (by omega) ?_]
    · exact f1
    · intro hr
      rcases hd.row with ⟨rfl, rfl⟩ | ⟨r, g, rfl, e⟩
      · cases hr
      · injection hr with hr
        subst hr
        have := e.symm.trans hd.box
        simp at this
  generalize hh3 : h2.set o (.box 55 [.int .i64 lim, L', .map m]) = h3
  have k1 : h3[o]? = some (.box 55 [.int .i64 lim, L', .map m]) := by
    rw [← hh3]; exact List.getElem?_set_self (by omega)
  have kx : ∀ i, i ≠ o → h3[i]? = h2[i]? := fun i hi => by rw [← hh3, List.getElem?_set_ne (Ne.symm hi)]
  have hmL : rowOf L ≠ some m := by
    intro hr
    rcases hd.row with ⟨rfl, rfl⟩ | ⟨r, g, rfl, e⟩
    · cases hr
    · injection hr with hr
      subst hr
      have := e.symm.trans hd.map
      simp at this
  have hD : DictAt h3 o m L' lim (vs ++ [v]) := by
    refine ⟨k1, ?_, .inr ?_⟩
    · rw [kx m (Ne.symm hom), a2 m (by omega) hmL, ← hh1, List.getElem?_set_self (by simp; omega)]
    · obtain ⟨r, g, h1', h2'⟩ := a4
      refine ⟨r, g, by rw [h1']; simp, ?_⟩
      rw [kx r ?_]
      · exact h2'
      · rintro rfl
        exact a5 (by rw [h1']; rfl)
  have k3 := hD.len0
  refine ⟨L', h3, ?_, hD, ?_, ?_, ?_⟩
  · have q1 := eltL_v v
    have q2 := Wc_v v
    have q3 := Nr_v v
    have q4 : vw h1 4 (.list 4 [v.d] true) = some [v.d] := rfl
    rw [E_go (X := X) _ b12 _ rfl rfl]; unfold b12
    have q6 : (vs.length : Int) + 1 - 1 = vs.length := by omega
    (repeat (first | rw [s_assoc] | rw [s_seq_reg (by simp [evOps, evOp_n, evOp_r, evOp_d, evOp_dr, kpo_refl, kpo_app, cnd_some, cnd_pair, cnd_cnd_t, cnd_cnd_f, cnd_same, cnd_dvb, cnd_and, cnd_or, ↓evx_pick, gd_bool, gd_boolf, gd_tup, cnd_t, cnd_f, evTo, isCall, evx, put, lk, Od.v, keepEnv, enterEnv, ldx_ref, rdc, binx, binI, binS, unx, eqk, DV.isU, DV.cells, hget, hget0, hset, hset0, stx_ref, splice, DV.one, fillp, mat, eqcs, eqs, run29, hm, e1, hf, e2, e3, n1, e4, hput, hh1, keq_v, V.eqb, beq_bytes]; exact ⟨rfl, rfl⟩)] | rw [s_cnd (by simp [lk, keepEnv, Od.v, run29, hm, e1, hf, e2, e3, n1, e4, hput, hh1, keq_v, V.eqb, beq_bytes]; exact rfl)] | rw [cnd_t] | rw [cnd_f] | rw [s_skip] | rw [s_ret] | rw [s_exit] | rw [C_ret] | rw [C_exit] | rw [C_skip] | rw [blk_ret] | rw [blk_norm] | rw [blk_exit] | rw [blk_exit' (by decide)] | rw [blkT_ret] | rw [blkT_norm] | rw [blkT_exit] | rw [blkT_exit' (by decide)] | rw [s_blk] | rw [s_reg (by simp [evOps, evOp_n, evOp_r, evOp_d, evOp_dr, kpo_refl, kpo_app, cnd_some, cnd_pair, cnd_cnd_t, cnd_cnd_f, cnd_same, cnd_dvb, cnd_and, cnd_or, ↓evx_pick, gd_bool, gd_boolf, gd_tup, cnd_t, cnd_f, evTo, isCall, evx, put, lk, Od.v, keepEnv, enterEnv, ldx_ref, rdc, binx, binI, binS, unx, eqk, DV.isU, DV.cells, hget, hget0, hset, hset0, stx_ref, splice, DV.one, fillp, mat, eqcs, eqs, run29, hm, e1, hf, e2, e3, n1, e4, hput, hh1, keq_v, V.eqb, beq_bytes]; exact ⟨rfl, rfl⟩)] | rw [t_cnd (by simp [lk, keepEnv, Od.v, run29, hm, e1, hf, e2, e3, n1, e4, hput, hh1, keq_v, V.eqb, beq_bytes]; exact rfl)] | rw [t_blk]))
    obtain ⟨rr, gg, hL', hrr⟩ := a4
    subst hL'
    have q8 : h3.take H.length ≠ H := by
      intro hq
      have hl' : ∀ (l : List V) (i : Nat), (ents l i).length = l.length := by
        intro l; induction l with
        | nil => intro i; rfl
        | cons a l ih => intro i; simp [ents, ih]
      have h9 := hd.map
      rw [← hq, List.getElem?_take_of_lt hm', hD.map] at h9
      simp only [Option.some.injEq, HO.map.injEq, true_and] at h9
      have h10 := congrArg List.length h9
      rw [hl', hl'] at h10
      simp at h10
    rw [s_seq_reg (by simp [evOps, evOp_n, evOp_r, evOp_d, evOp_dr, kpo_refl, kpo_app, cnd_some, cnd_pair, cnd_cnd_t, cnd_cnd_f, cnd_same, cnd_dvb, cnd_and, cnd_or, ↓evx_pick, gd_bool, gd_boolf, gd_tup, cnd_t, cnd_f, evTo, isCall, evx, put, lk, Od.v, keepEnv, enterEnv, ldx_ref, rdc, binx, binI, binS, unx, eqk, DV.isU, DV.cells, hget, hget0, hset, hset0, stx_ref, splice, DV.one, fillp, mat, eqcs, eqs, f1, f2, f3, q1, q2, q3, q4, hap, g1, hh3, srcOf]; exact ⟨rfl, rfl⟩)]
    rw [s_seq_reg (by simp [evOps, evOp_n, evOp_r, evOp_d, evOp_dr, kpo_refl, kpo_app, cnd_some, cnd_pair, cnd_cnd_t, cnd_cnd_f, cnd_same, cnd_dvb, cnd_and, cnd_or, ↓evx_pick, gd_bool, gd_boolf, gd_tup, cnd_t, cnd_f, evTo, isCall, evx, put, lk, Od.v, keepEnv, enterEnv, ldx_ref, rdc, binx, binI, binS, unx, eqk, DV.isU, DV.cells, hget, hget0, hset, hset0, stx_ref, splice, DV.one, fillp, mat, eqcs, eqs, k1, k3, w1, q6]; exact ⟨rfl, rfl⟩)]
    rw [C_ret]
    simp [ends_ret, ends_norm, resL, evOps, evOp_n, evOp_r, evOp_d, evOp_dr, kpo_refl, kpo_app, cnd_some, cnd_pair, cnd_cnd_t, cnd_cnd_f, cnd_same, cnd_dvb, cnd_and, cnd_or, ↓evx_pick, gd_bool, gd_boolf, gd_tup, cnd_t, cnd_f, evTo, isCall, evx, put, lk, Od.v, keepEnv, enterEnv, ldx_ref, rdc, binx, binI, binS, unx, eqk, DV.isU, DV.cells, hget, hget0, hset, hset0, stx_ref, splice, DV.one, fillp, mat, eqcs, eqs, fin, fz0, fz1, fzT, fzL, nlt, q8]
  · rw [← hh3]; simp; omega
  · intro i hi h1' h2' h3'
    rw [kx i h1', a2 i (by omega) h3', fx i hi h2']
  · rcases a3 with h | ⟨r, h, h'⟩
    · exact .inl h
    · exact .inr ⟨r, h, by omega⟩
end Go.Proofs.Ytmlfhjpajbmajaa
