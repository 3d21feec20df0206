/- QueryNames, in plain Lean: what a query that may be asked names; the ideal run of the law. -/
import Derived.Test.YtobpbjmnonbblaaDoorQryK
import Derived.Test.YtobpbjmnonbblaaDoorQryO
namespace Go.Proofs.YtobpbjmnonbblaaDoor
attribute [local go_sem] evOps evOp_n evOp_r evOp_d evOp_dr kpo_refl kpo_app cnd_some cnd_pair cnd_cnd_t cnd_cnd_f cnd_same cnd_dvb cnd_and cnd_or gd_bool gd_boolf gd_tup cnd_t cnd_f evTo isCall evx put lk Od.v keepEnv enterEnv ldx_ref rdc binx binI binS unx eqk DV.isU DV.cells hget hget0 hset hset0 stx_ref splice fillp mat eqcs eqs one_bool one_int one_str one_nilp one_ref one_elem one_nils one_list one_row one_nilm one_map one_nilf one_func one_nili one_ifc one_agg one_tup one_undef one_fresh
attribute [local go_sem ↓] evx_pick
set_option linter.unusedVariables false
set_option linter.unusedSimpArgs false
set_option maxRecDepth 10000
theorem cmpT_mem : ∀ {l : List Int} {z : Int}, z ∈ cmpT l ↔ z ∈ l
  | [], z => by simp [cmpT]
  | [x], z => by simp [cmpT]
  | x :: y :: l, z => by
    have ih := @cmpT_mem (y :: l) z
    rw [cmpT]
    split
    · rename_i h
      subst h
      rw [ih]; simp
    · rw [List.mem_cons, ih, List.mem_cons (a := z) (b := x)]
theorem cmpT_lt : ∀ {l : List Int}, l.Pairwise (· ≤ ·) → (cmpT l).Pairwise (· < ·)
  | [], _ => by simp [cmpT]
  | [x], _ => by simp [cmpT]
  | x :: y :: l, h => by
    obtain ⟨h1, h2⟩ := List.pairwise_cons.1 h
    have ih := cmpT_lt h2
    rw [cmpT]
    split
    · exact ih
    · rename_i hne
      refine List.pairwise_cons.2 ⟨fun z hz => ?_, ih⟩
      have hz' := cmpT_mem.1 hz
      have hy := h1 y (by simp)
      rcases List.mem_cons.1 hz' with rfl | hz'
      · omega
      · have := (List.pairwise_cons.1 h2).1 z hz'
        omega
theorem srtI_mem {l : List Int} {z : Int} : z ∈ srtI l ↔ z ∈ l := List.mem_mergeSort
theorem srtI_le (l : List Int) : (srtI l).Pairwise (· ≤ ·) := by
  have := List.pairwise_mergeSort (le := fun x y : Int => decide (x ≤ y)) (fun a b c h1 h2 => by simp at *; omega) (fun a b => by simp; omega) l
  exact this.imp (fun h => by simpa using h)
theorem usesV_mem {q : Qry} {z : Int} : z ∈ usesV q ↔ z ∈ usesL q ∧ 0 ≤ z := by
  unfold usesV
  rw [cmpT_mem, srtI_mem, fewV, List.mem_filter]
  simp
theorem usesV_lt (q : Qry) : (usesV q).Pairwise (· < ·) := cmpT_lt (srtI_le _)
theorem filt_zero {s : Sch} : ∀ {l : List N} {i j : Nat} {x : N}, filtV s l i = 0 → l[j]? = some x → nodeV s (i + j) x = 0
  | [], _, _, _, _, h => by simp at h
  | y :: l, i, j, x, h0, h => by
    rw [filtV] at h0
    split at h0
    case isFalse h1 => exact absurd h0 h1
    case isTrue h1 =>
      cases j with
      | zero => simp at h; subst h; exact h1
      | succ j =>
        have := filt_zero (i := i + 1) h0 (by simpa using h)
        rwa [show i + 1 + j = i + (j + 1) by omega] at this
theorem node_used {s : Sch} {i : Nat} {x : N} (h : nodeV s i x = 0) (hu : usedN x = true) : hasV s x.col = true := by
  unfold nodeV at h
  have hn : needsV x.ask = 1 ∨ needsV x.ask = 2 := by unfold usedN at hu; simpa using hu
  rw [if_neg (by omega), if_pos hn] at h
  cases hg : getI s.cols x.col with
  | none => rw [hg] at h; simp at h
  | some c => exact (has_some hg).1
theorem node_ahead {s : Sch} {i : Nat} {x : N} (h : nodeV s i x = 0) (h8 : 8 ≤ x.ask) : 0 ≤ x.a ∧ x.a < i := by
  unfold nodeV at h
  by_cases c1 : x.ask = 8 ∨ x.ask = 9
  · have hn : needsV x.ask = 3 := by rcases c1 with c1 | c1 <;> rw [c1] <;> rfl
    rw [hn] at h
    simp only [Int.reduceEq, if_false, or_self, if_true] at h
    split at h
    · rename_i hh
      obtain ⟨h1, _⟩ := hh
      unfold ahV at h1
      simpa using h1
    · cases h
  · by_cases c2 : x.ask = 10
    · have hn : needsV x.ask = 4 := by rw [c2]; rfl
      rw [hn] at h
      simp only [Int.reduceEq, if_false, or_self, if_true] at h
      split at h
      · rename_i h1
        unfold ahV at h1
        simpa using h1
      · cases h
    · have hn : needsV x.ask = 5 := by unfold needsV; rw [if_neg (by omega), if_neg (by omega), if_neg (by omega), if_neg (by omega), if_neg (by omega)]
      rw [if_pos hn] at h
      cases h
theorem agg_col {s : Sch} {x : Int × Int} (h : aggV s x = 0) : x.2 < 0 ∨ hasV s x.2 = true := by
  unfold aggV at h
  split at h
  · cases h
  split at h
  · omega
  cases hg : getI s.cols x.2 with
  | none => rw [hg] at h; simp at h
  | some c => exact .inr (has_some hg).1
theorem uses_has {s : Sch} {q : Qry} (h : checkV s q = 0) : ∀ z ∈ usesV q, hasV s z = true := by
  intro z hz
  obtain ⟨c1, c2, c3, c4, c5, c6, c7⟩ := check_zero h
  obtain ⟨hm, h0⟩ := usesV_mem.1 hz
  unfold usesL at hm
  rcases List.mem_append.1 hm with hm | hm
  · rcases List.mem_append.1 hm with hm | hm
    · exact c4 z hm
    · obtain ⟨x, hx, rfl⟩ := List.mem_map.1 hm
      obtain ⟨hx1, hx2⟩ := List.mem_filter.1 hx
      obtain ⟨j, hj⟩ := List.mem_iff_getElem?.1 hx1
      exact node_used (filt_zero c3 hj) hx2
  · obtain ⟨x, hx, rfl⟩ := List.mem_map.1 hm
    rcases agg_col (aggsV_zero c5 x hx) with h1 | h1
    · omega
    · exact h1
end Go.Proofs.YtobpbjmnonbblaaDoor
