/- QueryMore, in plain Lean: the ideal run of the law. -/
import Derived.Test.YtobpbjmnonbblaaDoorQryJ
namespace Go.Proofs.YtobpbjmnonbblaaDoor
attribute [local go_sem] evOps evOp_n evOp_r evOp_d evOp_dr kpo_refl kpo_app cnd_some cnd_pair cnd_cnd_t cnd_cnd_f cnd_same cnd_dvb cnd_and cnd_or gd_bool gd_boolf gd_tup cnd_t cnd_f evTo isCall evx put lk Od.v keepEnv enterEnv ldx_ref rdc binx binI binS unx eqk DV.isU DV.cells hget hget0 hset hset0 stx_ref splice fillp mat eqcs eqs one_bool one_int one_str one_nilp one_ref one_elem one_nils one_list one_row one_nilm one_map one_nilf one_func one_nili one_ifc one_agg one_tup one_undef one_fresh
attribute [local go_sem ↓] evx_pick
set_option linter.unusedVariables false
set_option linter.unusedSimpArgs false
set_option maxRecDepth 10000
theorem filtV_snoc (s : Sch) (x : N) : ∀ (l : List N) (i : Nat), filtV s l i = 0 → filtV s (l ++ [x]) i = nodeV s (i + l.length) x
  | [], i, _ => by
    simp only [List.nil_append, filtV, List.length_nil, Nat.add_zero]
    split
    · rename_i h; exact h.symm
    · rfl
  | y :: l, i, h => by
    rw [filtV] at h
    rw [List.cons_append, filtV]
    split at h
    · rename_i h0
      rw [if_pos h0, filtV_snoc s x l (i + 1) h, List.length_cons]
      congr 1; omega
    · rename_i h0; exact absurd h h0
theorem long_parts {q : Qry} (h : longV q = false) : q.filter.length ≤ 32 ∧ q.cols.length ≤ 8 ∧ q.group.length ≤ 4 ∧ q.aggs.length ≤ 4 ∧ q.sort.length ≤ 4 ∧ 0 ≤ q.lim ∧ q.lim ≤ 4096 := by
  simp [longV] at h
  omega
theorem long_of {q : Qry} (h1 : q.filter.length ≤ 32) (h2 : q.cols.length ≤ 8) (h3 : q.group.length ≤ 4) (h4 : q.aggs.length ≤ 4) (h5 : q.sort.length ≤ 4) (h6 : 0 ≤ q.lim) (h7 : q.lim ≤ 4096) : longV q = false := by
  simp [longV]
  omega
theorem more_lim {s : Sch} {q : Qry} (h : checkV s q = 0) {l : Int} (hl : 4096 < l) : checkV s { q with lim := l } = 2 := by
  obtain ⟨c1, _⟩ := check_zero h
  unfold checkV
  rw [if_neg (by rw [c1]; simp), if_pos]
  simp [longV, hl]
theorem more_sort {s : Sch} {q : Qry} (h : checkV s q = 0) {n : Int} (hn : (outsN q : Int) ≤ n) : checkV s { q with sort := [(n, false)] } = 3 := by
  obtain ⟨c1, c2, c3, c4, c5, c6, c7⟩ := check_zero h
  obtain ⟨l1, l2, l3, l4, l5, l6, l7⟩ := long_parts c2
  unfold checkV
  rw [if_neg (by rw [c1]; simp), if_neg (by rw [long_of (q := { q with sort := [(n, false)] }) l1 l2 l3 l4 (by simp) l6 l7]; simp), if_neg (by simpa using c3), if_neg, if_neg (by simpa using c5), if_neg c6, if_pos]
  · have : (outsN { q with sort := [(n, false)] } : Int) ≤ n := hn
    simp [this]
  · intro h2
    obtain ⟨k, hk, hh⟩ := List.any_eq_true.1 h2
    rw [c4 k hk] at hh
    cases hh
theorem more_filter {s : Sch} {q : Qry} (h : checkV s q = 0) (hl : q.filter.length < 32) {x : N} {e : Int} (he : e ≠ 0) (hx : nodeV s q.filter.length x = e) : checkV s { q with filter := q.filter ++ [x] } = e := by
  obtain ⟨c1, c2, c3, c4, c5, c6, c7⟩ := check_zero h
  obtain ⟨l1, l2, l3, l4, l5, l6, l7⟩ := long_parts c2
  have hf : filtV s (q.filter ++ [x]) 0 = e := by rw [filtV_snoc s x q.filter 0 c3, Nat.zero_add, hx]
  unfold checkV
  rw [if_neg (by rw [c1]; simp), if_neg (by rw [long_of (q := { q with filter := q.filter ++ [x] }) (by simp; omega) l2 l3 l4 l5 l6 l7]; simp), if_pos (by simp only [hf]; exact he)]
  exact hf
def nodN (ask col a : Int) : N := ⟨ask, col, ⟨0, 0, ⟨#[]⟩, false⟩, a, 0⟩
theorem node_not {s : Sch} {n : Nat} {a : Int} (h : (n : Int) ≤ a) : nodeV s n (nodN 10 0 a) = 5 := by
  have h1 : needsV 10 = 4 := by decide
  have h2 : ahV n a = false := by simp [ahV]; omega
  simp [nodeV, nodN, h1, h2]
theorem node_is {s : Sch} {n : Nat} {a : Int} (h : (s.cols.length : Int) ≤ a) : nodeV s n (nodN 7 a 0) = 3 := by
  have h1 : needsV 7 = 2 := by decide
  have h2 : getI s.cols a = none := getI_none (by omega)
  simp [nodeV, nodN, h1, h2]
/-- What the arguments are. -/
structure Args (Cd F Cn Gr Ag So : DV) (s : Sch) (q : Qry) : Prop where
  C : ∀ g, vw g 3 Cd = some (s.cols.map Cl.d)
  f : ∀ g, vw g 8 F = some (q.filter.map N.d)
  sf : ∀ g, srcOf g 8 F = some (q.filter.map N.d)
  c : SlI Cn q.cols
  g : SlI Gr q.group
  a : ∀ h, vw h 2 Ag = some (q.aggs.map agD)
  s : ∀ h, vw h 2 So = some (q.sort.map byD)
  o1 : Cd.one = true
  o2 : F.one = true
  o3 : Ag.one = true
  o4 : So.one = true
end Go.Proofs.YtobpbjmnonbblaaDoor
