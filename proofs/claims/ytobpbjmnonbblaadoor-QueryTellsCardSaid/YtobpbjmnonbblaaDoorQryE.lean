/- Ideal runs: what Check calls. -/
import Derived.Test.YtobpbjmnonbblaaDoorQryD
namespace Go.Proofs.YtobpbjmnonbblaaDoor
attribute [local go_sem] evOps evOp_n evOp_r evOp_d evOp_dr kpo_refl kpo_app cnd_some cnd_pair cnd_cnd_t cnd_cnd_f cnd_same cnd_dvb cnd_and cnd_or gd_bool gd_boolf gd_tup cnd_t cnd_f evTo isCall evx put lk Od.v keepEnv enterEnv ldx_ref rdc binx binI binS unx eqk DV.isU DV.cells hget hget0 hset hset0 stx_ref splice fillp mat eqcs eqs one_bool one_int one_str one_nilp one_ref one_elem one_nils one_list one_row one_nilm one_map one_nilf one_func one_nili one_ifc one_agg one_tup one_undef one_fresh
attribute [local go_sem ↓] evx_pick
set_option linter.unusedVariables false
set_option linter.unusedSimpArgs false
set_option maxRecDepth 10000
abbrev agD (x : Int × Int) : DV := .agg [.int .i64 x.1, .int .i64 x.2]
structure Qry where
  filter : List N
  cols : List Int
  group : List Int
  aggs : List (Int × Int)
  sort : List (Int × Bool)
  lim : Int
/-- A list of numbers that is only read. -/
def SlI (A : DV) (l : List Int) : Prop := (∃ c, A = .list 1 (l.map intD) c) ∨ (A = .nils ∧ l = [])
theorem SlI.vw {A : DV} {l : List Int} (h : SlI A l) (g : Heap) : vw g 1 A = some (l.map intD) := by
  rcases h with ⟨c, rfl⟩ | ⟨rfl, rfl⟩ <;> rfl
theorem SlI.one {A : DV} {l : List Int} (h : SlI A l) : A.one = true := by
  rcases h with ⟨c, rfl⟩ | ⟨rfl, rfl⟩ <;> rfl
theorem nr_ints (l : List Int) : ∀ x ∈ l.map intD, Nr x := fun x hx => by
  obtain ⟨n, _, rfl⟩ := List.mem_map.1 hx
  exact .int _ _
theorem SlI.nr {A : DV} {l : List Int} (h : SlI A l) : Nr A := by
  rcases h with ⟨c, rfl⟩ | ⟨rfl, rfl⟩
  · exact .list (nr_ints l)
  · exact .nils
theorem SlI.wc {A : DV} {l : List Int} (h : SlI A l) : Wc 1 A := by
  rcases h with ⟨c, rfl⟩ | ⟨rfl, rfl⟩ <;> simp [Wc, DV.cells, DV.one]
theorem SlI.elt {A B : DV} {l m : List Int} (h : SlI A l) (h2 : SlI B m) (g : Heap) : eltL [A, B] g = some ([A, B], g) := by
  rcases h with ⟨c, rfl⟩ | ⟨rfl, rfl⟩ <;> rcases h2 with ⟨c2, rfl⟩ | ⟨rfl, rfl⟩ <;> rfl
abbrev qryC (F Cn Gr Ag So : DV) (lim : Int) : List DV := [F, Cn, Gr, Ag, So, .int .i64 lim]
/-- A query's parts, at a heap, and behind it. -/
structure QV (H : Heap) (F Cn Gr Ag So : DV) (q : Qry) : Prop where
  f : ∀ G, vw (H ++ G) 8 F = some (q.filter.map N.d)
  c : SlI Cn q.cols
  g : SlI Gr q.group
  a : ∀ h, vw h 2 Ag = some (q.aggs.map agD)
  s : ∀ h, vw h 2 So = some (q.sort.map byD)
  nf : q.filter.length ≤ 1000
  nc : q.cols.length ≤ 1000
  ng : q.group.length ≤ 1000
  na : q.aggs.length ≤ 1000
  ns : q.sort.length ≤ 1000
theorem QV.ext {H : Heap} {F Cn Gr Ag So : DV} {q : Qry} (h : QV H F Cn Gr Ag So q) (G : Heap) : QV (H ++ G) F Cn Gr Ag So q :=
  { h with f := fun G' => by rw [List.append_assoc]; exact h.f _ }
def longV (q : Qry) : Bool := decide (32 < q.filter.length) || (decide (8 < q.cols.length) || (decide (4 < q.group.length) || (decide (4 < q.aggs.length) || (decide (4 < q.sort.length) || (decide (q.lim < 0) || decide (4096 < q.lim))))))
set_option maxHeartbeats 1000000 in
theorem run19 {H : Heap} {F Cn Gr Ag So : DV} {q : Qry} (hq : QV H F Cn Gr Ag So q) : E X 19 [.agg (qryC F Cn Gr Ag So q.lim)] H = some (.bool (longV q), H) := by
  have v1 := hq.f
  have v2 := hq.c.vw
  have v3 := hq.g.vw
  have v4 := hq.a
  have v5 := hq.s
  unfold longV
  clear hq
  obtain ⟨fl, co, gr, ag, so, lim⟩ := q
  simp only [qryC] at *
  by_cases c1 : 32 < fl.length
  · have d1 : (32 : Int) < (fl.length : Int) := by omega
    rw [E_go (X := X) _ b19 _ rfl rfl]; unfold b19; (repeat (first | rw [s_assoc] | rw [s_seq_reg (by simp [go_sem, v1, c1, d1]; exact ⟨rfl, rfl⟩)] | rw [s_cnd (by simp [lk, keepEnv, Od.v, v1, c1, d1]; exact rfl)] | rw [cnd_t] | rw [cnd_f] | rw [s_skip] | rw [s_ret] | rw [s_exit] | rw [C_ret] | rw [C_exit] | rw [C_skip] | rw [blk_ret] | rw [blk_norm] | rw [blk_exit] | rw [blk_exit' (by decide)] | rw [blkT_ret] | rw [blkT_norm] | rw [blkT_exit] | rw [blkT_exit' (by decide)] | rw [s_blk] | rw [s_reg (by simp [go_sem, v1, c1, d1]; exact ⟨rfl, rfl⟩)] | rw [t_cnd (by simp [lk, keepEnv, Od.v, v1, c1, d1]; exact rfl)] | rw [t_blk])); simp [ends_ret, ends_norm, resL, go_sem, fin, fz0, fz1, fzT, fzL, nlt, v1, c1, d1]
  have d1 : ¬ (32 : Int) < (fl.length : Int) := by omega
  by_cases c2 : 8 < co.length
  · have d2 : (8 : Int) < (co.length : Int) := by omega
    rw [E_go (X := X) _ b19 _ rfl rfl]; unfold b19; (repeat (first | rw [s_assoc] | rw [s_seq_reg (by simp [go_sem, v1, v2, c1, d1, c2, d2]; exact ⟨rfl, rfl⟩)] | rw [s_cnd (by simp [lk, keepEnv, Od.v, v1, v2, c1, d1, c2, d2]; exact rfl)] | rw [cnd_t] | rw [cnd_f] | rw [s_skip] | rw [s_ret] | rw [s_exit] | rw [C_ret] | rw [C_exit] | rw [C_skip] | rw [blk_ret] | rw [blk_norm] | rw [blk_exit] | rw [blk_exit' (by decide)] | rw [blkT_ret] | rw [blkT_norm] | rw [blkT_exit] | rw [blkT_exit' (by decide)] | rw [s_blk] | rw [s_reg (by simp [go_sem, v1, v2, c1, d1, c2, d2]; exact ⟨rfl, rfl⟩)] | rw [t_cnd (by simp [lk, keepEnv, Od.v, v1, v2, c1, d1, c2, d2]; exact rfl)] | rw [t_blk])); simp [ends_ret, ends_norm, resL, go_sem, fin, fz0, fz1, fzT, fzL, nlt, v1, v2, c1, d1, c2, d2]
  have d2 : ¬ (8 : Int) < (co.length : Int) := by omega
  by_cases c3 : 4 < gr.length
  · have d3 : (4 : Int) < (gr.length : Int) := by omega
    rw [E_go (X := X) _ b19 _ rfl rfl]; unfold b19; (repeat (first | rw [s_assoc] | rw [s_seq_reg (by simp [go_sem, v1, v2, v3, c1, d1, c2, d2, c3, d3]; exact ⟨rfl, rfl⟩)] | rw [s_cnd (by simp [lk, keepEnv, Od.v, v1, v2, v3, c1, d1, c2, d2, c3, d3]; exact rfl)] | rw [cnd_t] | rw [cnd_f] | rw [s_skip] | rw [s_ret] | rw [s_exit] | rw [C_ret] | rw [C_exit] | rw [C_skip] | rw [blk_ret] | rw [blk_norm] | rw [blk_exit] | rw [blk_exit' (by decide)] | rw [blkT_ret] | rw [blkT_norm] | rw [blkT_exit] | rw [blkT_exit' (by decide)] | rw [s_blk] | rw [s_reg (by simp [go_sem, v1, v2, v3, c1, d1, c2, d2, c3, d3]; exact ⟨rfl, rfl⟩)] | rw [t_cnd (by simp [lk, keepEnv, Od.v, v1, v2, v3, c1, d1, c2, d2, c3, d3]; exact rfl)] | rw [t_blk])); simp [ends_ret, ends_norm, resL, go_sem, fin, fz0, fz1, fzT, fzL, nlt, v1, v2, v3, c1, d1, c2, d2, c3, d3]
  have d3 : ¬ (4 : Int) < (gr.length : Int) := by omega
  by_cases c4 : 4 < ag.length
  · have d4 : (4 : Int) < (ag.length : Int) := by omega
    rw [E_go (X := X) _ b19 _ rfl rfl]; unfold b19; (repeat (first | rw [s_assoc] | rw [s_seq_reg (by simp [go_sem, v1, v2, v3, v4, c1, d1, c2, d2, c3, d3, c4, d4]; exact ⟨rfl, rfl⟩)] | rw [s_cnd (by simp [lk, keepEnv, Od.v, v1, v2, v3, v4, c1, d1, c2, d2, c3, d3, c4, d4]; exact rfl)] | rw [cnd_t] | rw [cnd_f] | rw [s_skip] | rw [s_ret] | rw [s_exit] | rw [C_ret] | rw [C_exit] | rw [C_skip] | rw [blk_ret] | rw [blk_norm] | rw [blk_exit] | rw [blk_exit' (by decide)] | rw [blkT_ret] | rw [blkT_norm] | rw [blkT_exit] | rw [blkT_exit' (by decide)] | rw [s_blk] | rw [s_reg (by simp [go_sem, v1, v2, v3, v4, c1, d1, c2, d2, c3, d3, c4, d4]; exact ⟨rfl, rfl⟩)] | rw [t_cnd (by simp [lk, keepEnv, Od.v, v1, v2, v3, v4, c1, d1, c2, d2, c3, d3, c4, d4]; exact rfl)] | rw [t_blk])); simp [ends_ret, ends_norm, resL, go_sem, fin, fz0, fz1, fzT, fzL, nlt, v1, v2, v3, v4, c1, d1, c2, d2, c3, d3, c4, d4]
  have d4 : ¬ (4 : Int) < (ag.length : Int) := by omega
  by_cases c5 : 4 < so.length
  · have d5 : (4 : Int) < (so.length : Int) := by omega
    rw [E_go (X := X) _ b19 _ rfl rfl]; unfold b19; (repeat (first | rw [s_assoc] | rw [s_seq_reg (by simp [go_sem, v1, v2, v3, v4, v5, c1, d1, c2, d2, c3, d3, c4, d4, c5, d5]; exact ⟨rfl, rfl⟩)] | rw [s_cnd (by simp [lk, keepEnv, Od.v, v1, v2, v3, v4, v5, c1, d1, c2, d2, c3, d3, c4, d4, c5, d5]; exact rfl)] | rw [cnd_t] | rw [cnd_f] | rw [s_skip] | rw [s_ret] | rw [s_exit] | rw [C_ret] | rw [C_exit] | rw [C_skip] | rw [blk_ret] | rw [blk_norm] | rw [blk_exit] | rw [blk_exit' (by decide)] | rw [blkT_ret] | rw [blkT_norm] | rw [blkT_exit] | rw [blkT_exit' (by decide)] | rw [s_blk] | rw [s_reg (by simp [go_sem, v1, v2, v3, v4, v5, c1, d1, c2, d2, c3, d3, c4, d4, c5, d5]; exact ⟨rfl, rfl⟩)] | rw [t_cnd (by simp [lk, keepEnv, Od.v, v1, v2, v3, v4, v5, c1, d1, c2, d2, c3, d3, c4, d4, c5, d5]; exact rfl)] | rw [t_blk])); simp [ends_ret, ends_norm, resL, go_sem, fin, fz0, fz1, fzT, fzL, nlt, v1, v2, v3, v4, v5, c1, d1, c2, d2, c3, d3, c4, d4, c5, d5]
  have d5 : ¬ (4 : Int) < (so.length : Int) := by omega
  by_cases c6 : lim < 0
  · rw [E_go (X := X) _ b19 _ rfl rfl]; unfold b19; (repeat (first | rw [s_assoc] | rw [s_seq_reg (by simp [go_sem, v1, v2, v3, v4, v5, c1, d1, c2, d2, c3, d3, c4, d4, c5, d5, c6]; exact ⟨rfl, rfl⟩)] | rw [s_cnd (by simp [lk, keepEnv, Od.v, v1, v2, v3, v4, v5, c1, d1, c2, d2, c3, d3, c4, d4, c5, d5, c6]; exact rfl)] | rw [cnd_t] | rw [cnd_f] | rw [s_skip] | rw [s_ret] | rw [s_exit] | rw [C_ret] | rw [C_exit] | rw [C_skip] | rw [blk_ret] | rw [blk_norm] | rw [blk_exit] | rw [blk_exit' (by decide)] | rw [blkT_ret] | rw [blkT_norm] | rw [blkT_exit] | rw [blkT_exit' (by decide)] | rw [s_blk] | rw [s_reg (by simp [go_sem, v1, v2, v3, v4, v5, c1, d1, c2, d2, c3, d3, c4, d4, c5, d5, c6]; exact ⟨rfl, rfl⟩)] | rw [t_cnd (by simp [lk, keepEnv, Od.v, v1, v2, v3, v4, v5, c1, d1, c2, d2, c3, d3, c4, d4, c5, d5, c6]; exact rfl)] | rw [t_blk])); simp [ends_ret, ends_norm, resL, go_sem, fin, fz0, fz1, fzT, fzL, nlt, v1, v2, v3, v4, v5, c1, d1, c2, d2, c3, d3, c4, d4, c5, d5, c6]
  · rw [E_go (X := X) _ b19 _ rfl rfl]; unfold b19; (repeat (first | rw [s_assoc] | rw [s_seq_reg (by simp [go_sem, v1, v2, v3, v4, v5, c1, d1, c2, d2, c3, d3, c4, d4, c5, d5, c6]; exact ⟨rfl, rfl⟩)] | rw [s_cnd (by simp [lk, keepEnv, Od.v, v1, v2, v3, v4, v5, c1, d1, c2, d2, c3, d3, c4, d4, c5, d5, c6]; exact rfl)] | rw [cnd_t] | rw [cnd_f] | rw [s_skip] | rw [s_ret] | rw [s_exit] | rw [C_ret] | rw [C_exit] | rw [C_skip] | rw [blk_ret] | rw [blk_norm] | rw [blk_exit] | rw [blk_exit' (by decide)] | rw [blkT_ret] | rw [blkT_norm] | rw [blkT_exit] | rw [blkT_exit' (by decide)] | rw [s_blk] | rw [s_reg (by simp [go_sem, v1, v2, v3, v4, v5, c1, d1, c2, d2, c3, d3, c4, d4, c5, d5, c6]; exact ⟨rfl, rfl⟩)] | rw [t_cnd (by simp [lk, keepEnv, Od.v, v1, v2, v3, v4, v5, c1, d1, c2, d2, c3, d3, c4, d4, c5, d5, c6]; exact rfl)] | rw [t_blk])); simp [ends_ret, ends_norm, resL, go_sem, fin, fz0, fz1, fzT, fzL, nlt, v1, v2, v3, v4, v5, c1, d1, c2, d2, c3, d3, c4, d4, c5, d5, c6]
def aggV (s : Sch) (x : Int × Int) : Int := if x.1 < 1 ∨ 6 ≤ x.1 then 1 else if x.1 = 1 ∧ x.2 = -1 then 0 else match getI s.cols x.2 with
  | none => 3
  | some c => if x.1 = 2 ∧ c.kd ≠ 1 then 9 else 0
theorem has_none {s : Sch} {i : Int} (hg : getI s.cols i = none) : hasV s i = false := by
  unfold getI at hg
  unfold hasV
  by_cases c1 : 0 ≤ i
  · rw [if_pos c1] at hg
    have := List.getElem?_eq_none_iff.1 hg
    have : ¬ i < (s.cols.length : Int) := by omega
    simp [this]
  · simp [c1]
theorem has_some {s : Sch} {i : Int} {c : Cl} (hg : getI s.cols i = some c) : hasV s i = true ∧ ∃ p : Nat, i = p ∧ s.cols[p]? = some c ∧ ∃ pl : p < s.cols.length, s.cols[p] = c := by
  unfold getI at hg
  split at hg
  case isFalse => cases hg
  rename_i p0
  obtain ⟨pl, he⟩ := List.getElem?_eq_some_iff.1 hg
  have : i < (s.cols.length : Int) := by omega
  exact ⟨by simp [hasV, p0, this], i.toNat, by omega, hg, pl, he⟩
set_option maxHeartbeats 1000000 in
theorem run25 {Cd : DV} {s : Sch} (hC : ∀ g, vw g 3 Cd = some (s.cols.map Cl.d)) (x : Int × Int) (H : Heap) : E X 25 [schD Cd s, agD x] H = some (.int .i64 (aggV s x), H) := by
  have e24 := fun g => run24 hC x.2 g
  obtain ⟨fn, col⟩ := x
  simp only at e24
  by_cases c1 : fn < 1
  · have hv : aggV s (fn, col) = 1 := by simp [aggV, c1]
    rw [hv]
    obtain ⟨cols, k1, k2, k3, k4⟩ := s
    simp only [schD, schC, agD] at *
    rw [E_go (X := X) _ b25 _ rfl rfl]; unfold b25; (repeat (first | rw [s_assoc] | rw [s_seq_reg (by simp [go_sem, c1]; exact ⟨rfl, rfl⟩)] | rw [s_cnd (by simp [lk, keepEnv, Od.v, c1]; exact rfl)] | rw [cnd_t] | rw [cnd_f] | rw [s_skip] | rw [s_ret] | rw [s_exit] | rw [C_ret] | rw [C_exit] | rw [C_skip] | rw [blk_ret] | rw [blk_norm] | rw [blk_exit] | rw [blk_exit' (by decide)] | rw [blkT_ret] | rw [blkT_norm] | rw [blkT_exit] | rw [blkT_exit' (by decide)] | rw [s_blk] | rw [s_reg (by simp [go_sem, c1]; exact ⟨rfl, rfl⟩)] | rw [t_cnd (by simp [lk, keepEnv, Od.v, c1]; exact rfl)] | rw [t_blk])); simp [ends_ret, ends_norm, resL, go_sem, fin, fz0, fz1, fzT, fzL, nlt, c1]
  by_cases c2 : 6 ≤ fn
  · have hv : aggV s (fn, col) = 1 := by simp [aggV, c2]
    rw [hv]
    obtain ⟨cols, k1, k2, k3, k4⟩ := s
    simp only [schD, schC, agD] at *
    rw [E_go (X := X) _ b25 _ rfl rfl]; unfold b25; (repeat (first | rw [s_assoc] | rw [s_seq_reg (by simp [go_sem, c1, c2]; exact ⟨rfl, rfl⟩)] | rw [s_cnd (by simp [lk, keepEnv, Od.v, c1, c2]; exact rfl)] | rw [cnd_t] | rw [cnd_f] | rw [s_skip] | rw [s_ret] | rw [s_exit] | rw [C_ret] | rw [C_exit] | rw [C_skip] | rw [blk_ret] | rw [blk_norm] | rw [blk_exit] | rw [blk_exit' (by decide)] | rw [blkT_ret] | rw [blkT_norm] | rw [blkT_exit] | rw [blkT_exit' (by decide)] | rw [s_blk] | rw [s_reg (by simp [go_sem, c1, c2]; exact ⟨rfl, rfl⟩)] | rw [t_cnd (by simp [lk, keepEnv, Od.v, c1, c2]; exact rfl)] | rw [t_blk])); simp [ends_ret, ends_norm, resL, go_sem, fin, fz0, fz1, fzT, fzL, nlt, c1, c2]
  by_cases c3 : fn = 1 ∧ col = -1
  · obtain ⟨rfl, rfl⟩ := c3
    have hv : aggV s (1, -1) = 0 := by simp [aggV]
    rw [hv]
    obtain ⟨cols, k1, k2, k3, k4⟩ := s
    simp only [schD, schC, agD] at *
    rw [E_go (X := X) _ b25 _ rfl rfl]; unfold b25; (repeat (first | rw [s_assoc] | rw [s_seq_reg (by simp [go_sem, c1, c2]; exact ⟨rfl, rfl⟩)] | rw [s_cnd (by simp [lk, keepEnv, Od.v, c1, c2]; exact rfl)] | rw [cnd_t] | rw [cnd_f] | rw [s_skip] | rw [s_ret] | rw [s_exit] | rw [C_ret] | rw [C_exit] | rw [C_skip] | rw [blk_ret] | rw [blk_norm] | rw [blk_exit] | rw [blk_exit' (by decide)] | rw [blkT_ret] | rw [blkT_norm] | rw [blkT_exit] | rw [blkT_exit' (by decide)] | rw [s_blk] | rw [s_reg (by simp [go_sem, c1, c2]; exact ⟨rfl, rfl⟩)] | rw [t_cnd (by simp [lk, keepEnv, Od.v, c1, c2]; exact rfl)] | rw [t_blk])); simp [ends_ret, ends_norm, resL, go_sem, fin, fz0, fz1, fzT, fzL, nlt, c1, c2]
  have c4 : fn ≠ 1 ∨ (fn = 1 ∧ col ≠ -1) := by omega
  cases hg : getI s.cols col with
  | none =>
    have hv : aggV s (fn, col) = 3 := by simp [aggV, c1, c2, c3, hg]
    rw [hv]
    rw [has_none hg] at e24
    obtain ⟨cols, k1, k2, k3, k4⟩ := s
    simp only [schD, schC, agD] at *
    clear hv hg
    rcases c4 with c4 | ⟨c4, c5⟩
    · have d4 : (fn == 1) = false := by simpa using c4
      rw [E_go (X := X) _ b25 _ rfl rfl]; unfold b25; (repeat (first | rw [s_assoc] | rw [s_seq_reg (by simp [go_sem, c1, c2, c4, d4, e24]; exact ⟨rfl, rfl⟩)] | rw [s_cnd (by simp [lk, keepEnv, Od.v, c1, c2, c4, d4, e24]; exact rfl)] | rw [cnd_t] | rw [cnd_f] | rw [s_skip] | rw [s_ret] | rw [s_exit] | rw [C_ret] | rw [C_exit] | rw [C_skip] | rw [blk_ret] | rw [blk_norm] | rw [blk_exit] | rw [blk_exit' (by decide)] | rw [blkT_ret] | rw [blkT_norm] | rw [blkT_exit] | rw [blkT_exit' (by decide)] | rw [s_blk] | rw [s_reg (by simp [go_sem, c1, c2, c4, d4, e24]; exact ⟨rfl, rfl⟩)] | rw [t_cnd (by simp [lk, keepEnv, Od.v, c1, c2, c4, d4, e24]; exact rfl)] | rw [t_blk])); simp [ends_ret, ends_norm, resL, go_sem, fin, fz0, fz1, fzT, fzL, nlt, c1, c2, c4, d4, e24]
    · subst c4
      have d5 : (col == -1) = false := by simpa using c5
      rw [E_go (X := X) _ b25 _ rfl rfl]; unfold b25; (repeat (first | rw [s_assoc] | rw [s_seq_reg (by simp [go_sem, c5, d5, e24]; exact ⟨rfl, rfl⟩)] | rw [s_cnd (by simp [lk, keepEnv, Od.v, c5, d5, e24]; exact rfl)] | rw [cnd_t] | rw [cnd_f] | rw [s_skip] | rw [s_ret] | rw [s_exit] | rw [C_ret] | rw [C_exit] | rw [C_skip] | rw [blk_ret] | rw [blk_norm] | rw [blk_exit] | rw [blk_exit' (by decide)] | rw [blkT_ret] | rw [blkT_norm] | rw [blkT_exit] | rw [blkT_exit' (by decide)] | rw [s_blk] | rw [s_reg (by simp [go_sem, c5, d5, e24]; exact ⟨rfl, rfl⟩)] | rw [t_cnd (by simp [lk, keepEnv, Od.v, c5, d5, e24]; exact rfl)] | rw [t_blk])); simp [ends_ret, ends_norm, resL, go_sem, fin, fz0, fz1, fzT, fzL, nlt, c5, d5, e24]
  | some c =>
    obtain ⟨hh, p, rfl, hp, pl, hpe⟩ := has_some hg
    rw [hh] at e24
    by_cases c6 : fn = 2
    · subst c6
      by_cases c7 : c.kd = 1
      · have hv : aggV s (2, (p : Int)) = 0 := by simp [aggV, hg, c7]
        rw [hv]
        obtain ⟨cols, k1, k2, k3, k4⟩ := s
        obtain ⟨cn, ck, cl⟩ := c
        simp only [schD, schC, agD, Cl.d] at *
        subst c7
        have pl : p < cols.length := pl
        clear hv hg hh
        rw [E_go (X := X) _ b25 _ rfl rfl]; unfold b25; (repeat (first | rw [s_assoc] | rw [s_seq_reg (by simp [go_sem, e24, hC, hp, pl, hpe, ldx]; exact ⟨rfl, rfl⟩)] | rw [s_cnd (by simp [lk, keepEnv, Od.v, e24, hC, hp, pl, hpe, ldx]; exact rfl)] | rw [cnd_t] | rw [cnd_f] | rw [s_skip] | rw [s_ret] | rw [s_exit] | rw [C_ret] | rw [C_exit] | rw [C_skip] | rw [blk_ret] | rw [blk_norm] | rw [blk_exit] | rw [blk_exit' (by decide)] | rw [blkT_ret] | rw [blkT_norm] | rw [blkT_exit] | rw [blkT_exit' (by decide)] | rw [s_blk] | rw [s_reg (by simp [go_sem, e24, hC, hp, pl, hpe, ldx]; exact ⟨rfl, rfl⟩)] | rw [t_cnd (by simp [lk, keepEnv, Od.v, e24, hC, hp, pl, hpe, ldx]; exact rfl)] | rw [t_blk])); simp [ends_ret, ends_norm, resL, go_sem, fin, fz0, fz1, fzT, fzL, nlt, e24, hC, hp, pl, hpe, ldx]
      · have hv : aggV s (2, (p : Int)) = 9 := by simp [aggV, hg, c7]
        rw [hv]
        obtain ⟨cols, k1, k2, k3, k4⟩ := s
        obtain ⟨cn, ck, cl⟩ := c
        simp only [schD, schC, agD, Cl.d] at *
        have d7 : (ck != 1) = true := by simpa using c7
        have pl : p < cols.length := pl
        clear hv hg hh
        rw [E_go (X := X) _ b25 _ rfl rfl]; unfold b25; (repeat (first | rw [s_assoc] | rw [s_seq_reg (by simp [go_sem, e24, hC, hp, pl, hpe, c7, d7, ldx]; exact ⟨rfl, rfl⟩)] | rw [s_cnd (by simp [lk, keepEnv, Od.v, e24, hC, hp, pl, hpe, c7, d7, ldx]; exact rfl)] | rw [cnd_t] | rw [cnd_f] | rw [s_skip] | rw [s_ret] | rw [s_exit] | rw [C_ret] | rw [C_exit] | rw [C_skip] | rw [blk_ret] | rw [blk_norm] | rw [blk_exit] | rw [blk_exit' (by decide)] | rw [blkT_ret] | rw [blkT_norm] | rw [blkT_exit] | rw [blkT_exit' (by decide)] | rw [s_blk] | rw [s_reg (by simp [go_sem, e24, hC, hp, pl, hpe, c7, d7, ldx]; exact ⟨rfl, rfl⟩)] | rw [t_cnd (by simp [lk, keepEnv, Od.v, e24, hC, hp, pl, hpe, c7, d7, ldx]; exact rfl)] | rw [t_blk])); simp [ends_ret, ends_norm, resL, go_sem, fin, fz0, fz1, fzT, fzL, nlt, e24, hC, hp, pl, hpe, c7, d7, ldx]
    · have d6 : (fn == 2) = false := by simpa using c6
      have hv : aggV s (fn, (p : Int)) = 0 := by simp [aggV, c1, c2, hg, c6]
      rw [hv]
      obtain ⟨cols, k1, k2, k3, k4⟩ := s
      obtain ⟨cn, ck, cl⟩ := c
      simp only [schD, schC, agD, Cl.d] at *
      clear hv hg hh
      rcases c4 with c4 | ⟨c4, c5⟩
      · have d4 : (fn == 1) = false := by simpa using c4
        rw [E_go (X := X) _ b25 _ rfl rfl]; unfold b25; (repeat (first | rw [s_assoc] | rw [s_seq_reg (by simp [go_sem, c1, c2, c4, d4, c6, d6, e24]; exact ⟨rfl, rfl⟩)] | rw [s_cnd (by simp [lk, keepEnv, Od.v, c1, c2, c4, d4, c6, d6, e24]; exact rfl)] | rw [cnd_t] | rw [cnd_f] | rw [s_skip] | rw [s_ret] | rw [s_exit] | rw [C_ret] | rw [C_exit] | rw [C_skip] | rw [blk_ret] | rw [blk_norm] | rw [blk_exit] | rw [blk_exit' (by decide)] | rw [blkT_ret] | rw [blkT_norm] | rw [blkT_exit] | rw [blkT_exit' (by decide)] | rw [s_blk] | rw [s_reg (by simp [go_sem, c1, c2, c4, d4, c6, d6, e24]; exact ⟨rfl, rfl⟩)] | rw [t_cnd (by simp [lk, keepEnv, Od.v, c1, c2, c4, d4, c6, d6, e24]; exact rfl)] | rw [t_blk])); simp [ends_ret, ends_norm, resL, go_sem, fin, fz0, fz1, fzT, fzL, nlt, c1, c2, c4, d4, c6, d6, e24]
      · subst c4
        have d5 : ((p : Int) == -1) = false := by simp
        rw [E_go (X := X) _ b25 _ rfl rfl]; unfold b25; (repeat (first | rw [s_assoc] | rw [s_seq_reg (by simp [go_sem, c5, d5, e24]; exact ⟨rfl, rfl⟩)] | rw [s_cnd (by simp [lk, keepEnv, Od.v, c5, d5, e24]; exact rfl)] | rw [cnd_t] | rw [cnd_f] | rw [s_skip] | rw [s_ret] | rw [s_exit] | rw [C_ret] | rw [C_exit] | rw [C_skip] | rw [blk_ret] | rw [blk_norm] | rw [blk_exit] | rw [blk_exit' (by decide)] | rw [blkT_ret] | rw [blkT_norm] | rw [blkT_exit] | rw [blkT_exit' (by decide)] | rw [s_blk] | rw [s_reg (by simp [go_sem, c5, d5, e24]; exact ⟨rfl, rfl⟩)] | rw [t_cnd (by simp [lk, keepEnv, Od.v, c5, d5, e24]; exact rfl)] | rw [t_blk])); simp [ends_ret, ends_norm, resL, go_sem, fin, fz0, fz1, fzT, fzL, nlt, c5, d5, e24]
def outsN (q : Qry) : Nat := q.cols.length + q.group.length + q.aggs.length
theorem run28 {H : Heap} {F Cn Gr Ag So : DV} {q : Qry} (hq : QV H F Cn Gr Ag So q) (l : Int) : E X 28 [.agg (qryC F Cn Gr Ag So l)] H = some (.int .i64 (outsN q : Nat), H) := by
  have v2 := hq.c.vw
  have v3 := hq.g.vw
  have v4 := hq.a
  have h2 := hq.nc
  have h3 := hq.ng
  have h4 := hq.na
  clear hq
  unfold outsN
  obtain ⟨fl, co, gr, ag, so, lim⟩ := q
  simp only [qryC] at *
  obtain ⟨n1, hn1⟩ : ∃ n, n = co.length + gr.length := ⟨_, rfl⟩
  obtain ⟨n2, hn2⟩ : ∃ n, n = co.length + gr.length + ag.length := ⟨_, rfl⟩
  have z1 : IntKind.i64.wrap ((co.length : Int) + (gr.length : Int)) = (n1 : Int) := (by rw [wrap64 _ (by omega) (by omega)]; omega)
  have z2 : IntKind.i64.wrap ((n1 : Int) + (ag.length : Int)) = (n2 : Int) := (by rw [wrap64 _ (by omega) (by omega)]; omega)
  rw [← hn2]
  clear hn1 hn2
  rw [E_go (X := X) _ b28 _ rfl rfl]; unfold b28; (repeat (first | rw [s_assoc] | rw [s_seq_reg (by simp [go_sem, v2, v3, v4, z1, z2]; exact ⟨rfl, rfl⟩)] | rw [s_cnd (by simp [lk, keepEnv, Od.v, v2, v3, v4, z1, z2]; exact rfl)] | rw [cnd_t] | rw [cnd_f] | rw [s_skip] | rw [s_ret] | rw [s_exit] | rw [C_ret] | rw [C_exit] | rw [C_skip] | rw [blk_ret] | rw [blk_norm] | rw [blk_exit] | rw [blk_exit' (by decide)] | rw [blkT_ret] | rw [blkT_norm] | rw [blkT_exit] | rw [blkT_exit' (by decide)] | rw [s_blk] | rw [s_reg (by simp [go_sem, v2, v3, v4, z1, z2]; exact ⟨rfl, rfl⟩)] | rw [t_cnd (by simp [lk, keepEnv, Od.v, v2, v3, v4, z1, z2]; exact rfl)] | rw [t_blk])); simp [ends_ret, ends_norm, resL, go_sem, fin, fz0, fz1, fzT, fzL, nlt, v2, v3, v4, z1, z2]
theorem fidx_any {α : Type} (P : α → Bool) : ∀ (l : List α) (i : Nat), decide (0 ≤ fidx P l i) = l.any P
  | [], _ => rfl
  | x :: l, i => by
    rw [fidx, List.any_cons]
    cases h : P x
    · simp only [Bool.false_eq_true, if_false, Bool.false_or]
      exact fidx_any P l (i + 1)
    · simp
theorem run21 {h : Heap} {L : DV} {xs : List Int} {f : Nat} {cap : List DV} {P : Int → Bool} (hL : vw h 1 L = some (xs.map intD)) (hF : ∀ x, x ∈ xs → E X f (intD x :: cap) h = some (.bool (P x), h)) (hb : xs.length ≤ 1000000) :
    E X 21 [L, .func f [] cap] h = some (.bool (xs.any P), h) := by
  have e := run44 hL hF hb
  rw [← fidx_any P xs 0]
  generalize fidx P xs 0 = r at *
  rw [E_go (X := X) _ b21 _ rfl rfl]; unfold b21; (repeat (first | rw [s_assoc] | rw [s_seq_reg (by simp [go_sem, e]; exact ⟨rfl, rfl⟩)] | rw [s_cnd (by simp [lk, keepEnv, Od.v, e]; exact rfl)] | rw [cnd_t] | rw [cnd_f] | rw [s_skip] | rw [s_ret] | rw [s_exit] | rw [C_ret] | rw [C_exit] | rw [C_skip] | rw [blk_ret] | rw [blk_norm] | rw [blk_exit] | rw [blk_exit' (by decide)] | rw [blkT_ret] | rw [blkT_norm] | rw [blkT_exit] | rw [blkT_exit' (by decide)] | rw [s_blk] | rw [s_reg (by simp [go_sem, e]; exact ⟨rfl, rfl⟩)] | rw [t_cnd (by simp [lk, keepEnv, Od.v, e]; exact rfl)] | rw [t_blk])); simp [ends_ret, ends_norm, resL, go_sem, fin, fz0, fz1, fzT, fzL, nlt, e]
theorem run26 {h : Heap} {L : DV} {xs : List (Int × Bool)} {f : Nat} {cap : List DV} {P : (Int × Bool) → Bool} (hL : vw h 2 L = some (xs.map byD)) (hF : ∀ x, x ∈ xs → E X f (byD x :: cap) h = some (.bool (P x), h)) (hb : xs.length ≤ 1000000) :
    E X 26 [L, .func f [] cap] h = some (.bool (xs.any P), h) := by
  have e := run46 hL hF hb
  rw [← fidx_any P xs 0]
  generalize fidx P xs 0 = r at *
  rw [E_go (X := X) _ b26 _ rfl rfl]; unfold b26; (repeat (first | rw [s_assoc] | rw [s_seq_reg (by simp [go_sem, e]; exact ⟨rfl, rfl⟩)] | rw [s_cnd (by simp [lk, keepEnv, Od.v, e]; exact rfl)] | rw [cnd_t] | rw [cnd_f] | rw [s_skip] | rw [s_ret] | rw [s_exit] | rw [C_ret] | rw [C_exit] | rw [C_skip] | rw [blk_ret] | rw [blk_norm] | rw [blk_exit] | rw [blk_exit' (by decide)] | rw [blkT_ret] | rw [blkT_norm] | rw [blkT_exit] | rw [blkT_exit' (by decide)] | rw [s_blk] | rw [s_reg (by simp [go_sem, e]; exact ⟨rfl, rfl⟩)] | rw [t_cnd (by simp [lk, keepEnv, Od.v, e]; exact rfl)] | rw [t_blk])); simp [ends_ret, ends_norm, resL, go_sem, fin, fz0, fz1, fzT, fzL, nlt, e]
theorem run23 {h : Heap} {b t : Nat} {Cd : DV} {s : Sch} (hC : ∀ g, vw g 3 Cd = some (s.cols.map Cl.d)) (hb : h[b]? = some (.box t (schC Cd s))) (k : Int) : E X 23 [.int .i64 k, .ref b 0] h = some (.bool (!hasV s k), h) := by
  have e24 := fun g => run24 hC k g
  generalize hasV s k = r at *
  obtain ⟨cols, k1, k2, k3, k4⟩ := s
  simp only [schD, schC] at *
  rw [E_go (X := X) _ b23 _ rfl rfl]; unfold b23; (repeat (first | rw [s_assoc] | rw [s_seq_reg (by simp [go_sem, hb, e24]; exact ⟨rfl, rfl⟩)] | rw [s_cnd (by simp [lk, keepEnv, Od.v, hb, e24]; exact rfl)] | rw [cnd_t] | rw [cnd_f] | rw [s_skip] | rw [s_ret] | rw [s_exit] | rw [C_ret] | rw [C_exit] | rw [C_skip] | rw [blk_ret] | rw [blk_norm] | rw [blk_exit] | rw [blk_exit' (by decide)] | rw [blkT_ret] | rw [blkT_norm] | rw [blkT_exit] | rw [blkT_exit' (by decide)] | rw [s_blk] | rw [s_reg (by simp [go_sem, hb, e24]; exact ⟨rfl, rfl⟩)] | rw [t_cnd (by simp [lk, keepEnv, Od.v, hb, e24]; exact rfl)] | rw [t_blk])); simp [ends_ret, ends_norm, resL, go_sem, fin, fz0, fz1, fzT, fzL, nlt, hb, e24]
theorem run27 {h : Heap} {b t : Nat} {F Cn Gr Ag So : DV} {q : Qry} (hq : QV h F Cn Gr Ag So q) (hb : h[b]? = some (.box t (qryC F Cn Gr Ag So q.lim))) (x : Int × Bool) : E X 27 [byD x, .ref b 0] h = some (.bool (decide (x.1 < 0) || decide ((outsN q : Int) ≤ x.1)), h) := by
  obtain ⟨x1, x2⟩ := x
  have e28 := run28 (hq.ext [.box 37 [.int .i64 x1, .bool x2]]) q.lim
  have hb2 : ∀ G, (h ++ G)[b]? = some (.box t (qryC F Cn Gr Ag So q.lim)) := fun G => by rw [List.getElem?_append_left (List.getElem?_eq_some_iff.1 hb).1]; exact hb
  generalize outsN q = n at *
  generalize q.lim = lim at *
  clear hq
  simp only [qryC, byD] at *
  by_cases c1 : x1 < 0
  · rw [E_go (X := X) _ b27 _ rfl rfl]; unfold b27; (repeat (first | rw [s_assoc] | rw [s_seq_reg (by simp [go_sem, hb, hb2, c1, ldx]; exact ⟨rfl, rfl⟩)] | rw [s_cnd (by simp [lk, keepEnv, Od.v, hb, hb2, c1, ldx]; exact rfl)] | rw [cnd_t] | rw [cnd_f] | rw [s_skip] | rw [s_ret] | rw [s_exit] | rw [C_ret] | rw [C_exit] | rw [C_skip] | rw [blk_ret] | rw [blk_norm] | rw [blk_exit] | rw [blk_exit' (by decide)] | rw [blkT_ret] | rw [blkT_norm] | rw [blkT_exit] | rw [blkT_exit' (by decide)] | rw [s_blk] | rw [s_reg (by simp [go_sem, hb, hb2, c1, ldx]; exact ⟨rfl, rfl⟩)] | rw [t_cnd (by simp [lk, keepEnv, Od.v, hb, hb2, c1, ldx]; exact rfl)] | rw [t_blk])); simp [ends_ret, ends_norm, resL, go_sem, fin, fz0, fz1, fzT, fzL, nlt, hb, hb2, c1, ldx]
  · rw [E_go (X := X) _ b27 _ rfl rfl]; unfold b27; (repeat (first | rw [s_assoc] | rw [s_seq_reg (by simp [go_sem, hb, hb2, c1, e28, ldx]; exact ⟨rfl, rfl⟩)] | rw [s_cnd (by simp [lk, keepEnv, Od.v, hb, hb2, c1, e28, ldx]; exact rfl)] | rw [cnd_t] | rw [cnd_f] | rw [s_skip] | rw [s_ret] | rw [s_exit] | rw [C_ret] | rw [C_exit] | rw [C_skip] | rw [blk_ret] | rw [blk_norm] | rw [blk_exit] | rw [blk_exit' (by decide)] | rw [blkT_ret] | rw [blkT_norm] | rw [blkT_exit] | rw [blkT_exit' (by decide)] | rw [s_blk] | rw [s_reg (by simp [go_sem, hb, hb2, c1, e28, ldx]; exact ⟨rfl, rfl⟩)] | rw [t_cnd (by simp [lk, keepEnv, Od.v, hb, hb2, c1, e28, ldx]; exact rfl)] | rw [t_blk])); simp [ends_ret, ends_norm, resL, go_sem, fin, fz0, fz1, fzT, fzL, nlt, hb, hb2, c1, e28, ldx]
theorem run45z (H : Heap) : E X 45 [.nils, .int .i64 0] H = some (.nils, H) := by
  have w0 : IntKind.i64.wrap 0 = 0 := wrap64 _ (by omega) (by omega)
  rw [E_go (X := X) _ b45 _ rfl rfl]; unfold b45; (repeat (first | rw [s_assoc] | rw [s_seq_reg (by simp [go_sem, w0, vw]; exact ⟨rfl, rfl⟩)] | rw [s_cnd (by simp [lk, keepEnv, Od.v, w0, vw]; exact rfl)] | rw [cnd_t] | rw [cnd_f] | rw [s_skip] | rw [s_ret] | rw [s_exit] | rw [C_ret] | rw [C_exit] | rw [C_skip] | rw [blk_ret] | rw [blk_norm] | rw [blk_exit] | rw [blk_exit' (by decide)] | rw [blkT_ret] | rw [blkT_norm] | rw [blkT_exit] | rw [blkT_exit' (by decide)] | rw [s_blk] | rw [s_reg (by simp [go_sem, w0, vw]; exact ⟨rfl, rfl⟩)] | rw [t_cnd (by simp [lk, keepEnv, Od.v, w0, vw]; exact rfl)] | rw [t_blk])); simp [ends_ret, ends_norm, resL, go_sem, fin, fz0, fz1, fzT, fzL, nlt, w0, vw]
theorem run45 {n : Nat} (h0 : 0 < n) (hb : n ≤ 1000000) (H : Heap) : E X 45 [.nils, .int .i64 n] H = some (.fresh 3 1 [], H) := by
  have w0 : IntKind.i64.wrap 0 = 0 := wrap64 _ (by omega) (by omega)
  have w1 : IntKind.i64.wrap (n : Int) = n := wrap64 _ (by omega) (by omega)
  have d0 : ¬ (n : Int) < 0 := by omega
  have d1 : (0 : Int) < (n : Int) := by omega
  have d2 : (n : Int) * 8 ≤ 140737488355328 := by omega
  have hw : Wc 1 (.int .i64 0) := by simp [Wc, DV.cells, DV.one]
  have hn : ¬ n = 0 := by omega
  have hn' : ¬ 0 = n := by omega
  obtain ⟨rp, hrp⟩ : ∃ rp, rp = List.replicate n (DV.int .i64 0) := ⟨_, rfl⟩
  have hrp' := hrp.symm
  have hrl : rp.length = n := by rw [hrp]; simp
  have hrn : ∀ x ∈ rp, Nr x := fun x hx => by rw [hrp] at hx; rw [List.eq_of_mem_replicate hx]; exact .int _ _
  clear hrp
  rw [E_go (X := X) _ b45 _ rfl rfl]; unfold b45; (repeat (first | rw [s_assoc] | rw [s_seq_reg (by simp [go_sem, w0, w1, d0, h0, d1, d2, hw, hn, hn', hrp', hrl, hrn, vw, slcx, intAt, cutx]; exact ⟨rfl, rfl⟩)] | rw [s_cnd (by simp [lk, keepEnv, Od.v, w0, w1, d0, h0, d1, d2, hw, hn, hn', hrp', hrl, hrn, vw, slcx, intAt, cutx]; exact rfl)] | rw [cnd_t] | rw [cnd_f] | rw [s_skip] | rw [s_ret] | rw [s_exit] | rw [C_ret] | rw [C_exit] | rw [C_skip] | rw [blk_ret] | rw [blk_norm] | rw [blk_exit] | rw [blk_exit' (by decide)] | rw [blkT_ret] | rw [blkT_norm] | rw [blkT_exit] | rw [blkT_exit' (by decide)] | rw [s_blk] | rw [s_reg (by simp [go_sem, w0, w1, d0, h0, d1, d2, hw, hn, hn', hrp', hrl, hrn, vw, slcx, intAt, cutx]; exact ⟨rfl, rfl⟩)] | rw [t_cnd (by simp [lk, keepEnv, Od.v, w0, w1, d0, h0, d1, d2, hw, hn, hn', hrp', hrl, hrn, vw, slcx, intAt, cutx]; exact rfl)] | rw [t_blk])); simp [ends_ret, ends_norm, resL, go_sem, fin, fz0, fz1, fzT, fzL, nlt, w0, w1, d0, h0, d1, d2, hw, hn, hn', hrp', hrl, hrn, vw, slcx, intAt, cutx]
  rw [if_pos ⟨rfl, by omega, hrn⟩]
end Go.Proofs.YtobpbjmnonbblaaDoor
