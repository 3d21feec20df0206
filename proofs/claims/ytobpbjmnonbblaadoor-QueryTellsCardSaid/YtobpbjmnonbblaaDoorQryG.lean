/- Ideal runs: query.Check. -/
import Derived.Test.YtobpbjmnonbblaaDoorQryF
namespace Go.Proofs.YtobpbjmnonbblaaDoor
attribute [local go_sem] evOps evOp_n evOp_r evOp_d evOp_dr kpo_refl kpo_app cnd_some cnd_pair cnd_cnd_t cnd_cnd_f cnd_same cnd_dvb cnd_and cnd_or gd_bool gd_boolf gd_tup cnd_t cnd_f evTo isCall evx put lk Od.v keepEnv enterEnv ldx_ref rdc binx binI binS unx eqk DV.isU DV.cells hget hget0 hset hset0 stx_ref splice fillp mat eqcs eqs one_bool one_int one_str one_nilp one_ref one_elem one_nils one_list one_row one_nilm one_map one_nilf one_func one_nili one_ifc one_agg one_tup one_undef one_fresh
attribute [local go_sem ↓] evx_pick
set_option linter.unusedVariables false
set_option linter.unusedSimpArgs false
set_option maxRecDepth 10000
def aggsV (s : Sch) : List (Int × Int) → Int
  | [] => 0
  | x :: l => if aggV s x = 0 then aggsV s l else aggV s x
theorem loop10 {Cd Ag : DV} {s : Sch} {b b2 : Nat} {xs : List (Int × Int)} (hC : ∀ g, vw g 3 Cd = some (s.cols.map Cl.d)) (hA : ∀ g, vw g 2 Ag = some (xs.map agD)) (hl : xs.length ≤ 1000) :
    ∀ (k i : Nat) (h : Heap), xs.length - i ≤ k → i ≤ xs.length → h[b]? = some (.box 24 (schC Cd s)) → (∃ ex G, C X (.loop lp10_0) [(2, .ref b 0), (3, .ref b2 0), (33, Ag), (34, .int .i64 xs.length), (35, .int .i64 i)] h = some (.exit 1, (2, .ref b 0) :: (3, .ref b2 0) :: ex, h ++ G) ∧ aggsV s (xs.drop i) = 0) ∨ (∃ G, C X (.loop lp10_0) [(2, .ref b 0), (3, .ref b2 0), (33, Ag), (34, .int .i64 xs.length), (35, .int .i64 i)] h = some (.ret, [(4, .int .i64 (aggsV s (xs.drop i)))], h ++ G) ∧ aggsV s (xs.drop i) ≠ 0) := by
  intro k
  induction k with
  | zero =>
    intro i h hk hi hb
    obtain rfl : i = xs.length := by omega
    refine .inl ⟨[(33, Ag), (34, .int .i64 xs.length), (35, .int .i64 xs.length), (36, .bool false)], [], ?_, by simp [aggsV]⟩
    rw [t_loop]
    unfold lp10_0
    (repeat (first | rw [s_assoc] | rw [s_seq_reg (by simp [go_sem]; exact ⟨rfl, rfl⟩)] | rw [s_cnd (by simp [lk, keepEnv, Od.v]; exact rfl)] | rw [cnd_t] | rw [cnd_f] | rw [s_skip] | rw [s_ret] | rw [s_exit] | rw [C_ret] | rw [C_exit] | rw [C_skip] | rw [blk_ret] | rw [blk_norm] | rw [blk_exit] | rw [blk_exit' (by decide)] | rw [blkT_ret] | rw [blkT_norm] | rw [blkT_exit] | rw [blkT_exit' (by decide)] | rw [s_blk] | rw [s_reg (by simp [go_sem]; exact ⟨rfl, rfl⟩)] | rw [t_cnd (by simp [lk, keepEnv, Od.v]; exact rfl)] | rw [t_blk]))
    rw [lp_exit]
    simp [keepEnv, lk]
  | succ k ih =>
    intro i h hk hi hb
    by_cases c : i < xs.length
    · obtain ⟨I, hI⟩ : ∃ I, I = i + 1 := ⟨_, rfl⟩
      have z1 : IntKind.i64.wrap ((i : Int) + 1) = (I : Int) := (by rw [wrap64 _ (by omega) (by omega)]; omega)
      obtain ⟨x, hx⟩ : ∃ x, x = xs[i] := ⟨_, rfl⟩
      have hxi : xs[i]? = some x := by rw [hx]; exact List.getElem?_eq_getElem c
      have hx' := hx.symm
      have hd : xs.drop i = x :: xs.drop I := by rw [List.drop_eq_getElem_cons c, ← hx, hI]
      have e25 := fun g => run25 hC x g
      have hb2 : ∀ G, (h ++ G)[b]? = some (.box 24 (schC Cd s)) := fun G => by rw [List.getElem?_append_left (List.getElem?_eq_some_iff.1 hb).1]; exact hb
      have hIH := ih I (h ++ [.box 51 [.int .i64 x.1, .int .i64 x.2]]) (by omega) (by omega) (hb2 _)
      rw [hd, aggsV]
      by_cases h0 : aggV s x = 0
      · rw [h0] at e25
        have hs : C X lp10_0 [(2, .ref b 0), (3, .ref b2 0), (33, Ag), (34, .int .i64 xs.length), (35, .int .i64 i)] h = some (.norm, [(2, .ref b 0), (3, .ref b2 0), (33, Ag), (34, .int .i64 xs.length), (35, .int .i64 I)], h ++ [.box 51 [.int .i64 x.1, .int .i64 x.2]]) := by
          clear ih hIH hx hd h0 hI
          obtain ⟨x1, x2⟩ := x
          obtain ⟨cols, k1, k2, k3, k4⟩ := s
          simp only [schD, schC, agD] at *
          unfold lp10_0
          (repeat (first | rw [s_assoc] | rw [s_seq_reg (by simp [go_sem, c, z1, hA, hx', hxi, e25, hb, hb2, ldx]; exact ⟨rfl, rfl⟩)] | rw [s_cnd (by simp [lk, keepEnv, Od.v, c, z1, hA, hx', hxi, e25, hb, hb2, ldx]; exact rfl)] | rw [cnd_t] | rw [cnd_f] | rw [s_skip] | rw [s_ret] | rw [s_exit] | rw [C_ret] | rw [C_exit] | rw [C_skip] | rw [blk_ret] | rw [blk_norm] | rw [blk_exit] | rw [blk_exit' (by decide)] | rw [blkT_ret] | rw [blkT_norm] | rw [blkT_exit] | rw [blkT_exit' (by decide)] | rw [s_blk] | rw [s_reg (by simp [go_sem, c, z1, hA, hx', hxi, e25, hb, hb2, ldx]; exact ⟨rfl, rfl⟩)] | rw [t_cnd (by simp [lk, keepEnv, Od.v, c, z1, hA, hx', hxi, e25, hb, hb2, ldx]; exact rfl)] | rw [t_blk]))
          simp [keepEnv, lk]
        rw [t_loop, hs, lp_norm, if_pos h0]
        rcases hIH with ⟨ex, G, h1, h2⟩ | ⟨G, h1, h2⟩
        · exact .inl ⟨ex, _, by rw [h1, List.append_assoc], h2⟩
        · exact .inr ⟨_, by rw [h1, List.append_assoc], h2⟩
      · right
        rw [if_neg h0]
        have h0' : (aggV s x != 0) = true := by simpa using h0
        refine ⟨[.box 51 [.int .i64 x.1, .int .i64 x.2]], ?_, h0⟩
        have hs : C X lp10_0 [(2, .ref b 0), (3, .ref b2 0), (33, Ag), (34, .int .i64 xs.length), (35, .int .i64 i)] h = some (.ret, [(4, .int .i64 (aggV s x))], h ++ [.box 51 [.int .i64 x.1, .int .i64 x.2]]) := by
          clear ih hIH hx hd hI
          generalize aggV s x = r at *
          obtain ⟨x1, x2⟩ := x
          obtain ⟨cols, k1, k2, k3, k4⟩ := s
          simp only [schD, schC, agD] at *
          unfold lp10_0
          (repeat (first | rw [s_assoc] | rw [s_seq_reg (by simp [go_sem, c, z1, hA, hx', hxi, e25, hb, hb2, h0, h0', ldx]; exact ⟨rfl, rfl⟩)] | rw [s_cnd (by simp [lk, keepEnv, Od.v, c, z1, hA, hx', hxi, e25, hb, hb2, h0, h0', ldx]; exact rfl)] | rw [cnd_t] | rw [cnd_f] | rw [s_skip] | rw [s_ret] | rw [s_exit] | rw [C_ret] | rw [C_exit] | rw [C_skip] | rw [blk_ret] | rw [blk_norm] | rw [blk_exit] | rw [blk_exit' (by decide)] | rw [blkT_ret] | rw [blkT_norm] | rw [blkT_exit] | rw [blkT_exit' (by decide)] | rw [s_blk] | rw [s_reg (by simp [go_sem, c, z1, hA, hx', hxi, e25, hb, hb2, h0, h0', ldx]; exact ⟨rfl, rfl⟩)] | rw [t_cnd (by simp [lk, keepEnv, Od.v, c, z1, hA, hx', hxi, e25, hb, hb2, h0, h0', ldx]; exact rfl)] | rw [t_blk]))
          simp [keepEnv, lk]
        rw [t_loop, hs, lp_ret]
    · exact ih i h (by omega) hi hb
def checkV (s : Sch) (q : Qry) : Int :=
  if smayV s = false then 1 else if longV q = true then 2 else if filtV s q.filter 0 ≠ 0 then filtV s q.filter 0 else
  if (q.cols ++ q.group).any (fun k => !hasV s k) = true then 3 else if aggsV s q.aggs ≠ 0 then aggsV s q.aggs else
  if decide (0 < q.group.length + q.aggs.length) = decide (0 < q.cols.length) then 5 else
  if q.sort.any (fun x => decide (x.1 < 0) || decide ((outsN q : Int) ≤ x.1)) = true then 3 else 0
theorem fin_int {H h : Heap} {r : Int} (ht : h.take H.length = H) : fin H h [.int .i64 r] = (.int .i64 r, H) := by
  simp [fin, ht, fz1, fz0]
set_option maxHeartbeats 2000000 in
theorem run10 {H : Heap} {Cd F Cn Gr Ag So : DV} {s : Sch} {q : Qry} (hC : ∀ g, vw g 3 Cd = some (s.cols.map Cl.d)) (hl : s.cols.length ≤ 1000) (hq : QV H F Cn Gr Ag So q) : E X 10 [schD Cd s, .agg (qryC F Cn Gr Ag So q.lim)] H = some (.int .i64 (checkV s q), H) := by
  obtain ⟨H1, hH1⟩ : ∃ H1, H1 = H ++ [HO.box 24 (schC Cd s), .box 30 (qryC F Cn Gr Ag So q.lim)] := ⟨_, rfl⟩
  have hq1 : QV H1 F Cn Gr Ag So q := by rw [hH1]; exact hq.ext _
  have hs1 : ∀ G, (H1 ++ G)[H.length]? = some (.box 24 (schC Cd s)) := fun G => by rw [hH1, List.append_assoc]; simp
  have hb1 : ∀ G, (H1 ++ G)[H.length + 1]? = some (.box 30 (qryC F Cn Gr Ag So q.lim)) := fun G => by rw [hH1, List.append_assoc]; simp [hget]
  have ht1 : ∀ G, (H1 ++ G).take H.length = H := fun G => by rw [hH1, List.append_assoc, List.take_append_of_le_length (Nat.le_refl _)]; exact List.take_length
  have e18 := fun g => run18 hC hl g
  by_cases p1 : smayV s = false
  · have hv : checkV s q = 1 := by unfold checkV; rw [if_pos p1]
    rw [hv]
    rw [p1] at e18
    obtain ⟨cols, k1, k2, k3, k4⟩ := s
    simp only [schD, schC, qryC] at *
    clear hv hs1 hb1 ht1 hq1 hH1
    rw [E_go (X := X) _ b10 _ rfl rfl]; unfold b10; (repeat (first | rw [s_assoc] | rw [s_seq_reg (by simp [go_sem, e18]; exact ⟨rfl, rfl⟩)] | rw [s_cnd (by simp [lk, keepEnv, Od.v, e18]; exact rfl)] | rw [cnd_t] | rw [cnd_f] | rw [s_skip] | rw [s_ret] | rw [s_exit] | rw [C_ret] | rw [C_exit] | rw [C_skip] | rw [blk_ret] | rw [blk_norm] | rw [blk_exit] | rw [blk_exit' (by decide)] | rw [blkT_ret] | rw [blkT_norm] | rw [blkT_exit] | rw [blkT_exit' (by decide)] | rw [s_blk] | rw [s_reg (by simp [go_sem, e18]; exact ⟨rfl, rfl⟩)] | rw [t_cnd (by simp [lk, keepEnv, Od.v, e18]; exact rfl)] | rw [t_blk])); simp [ends_ret, ends_norm, resL, go_sem, fin, fz0, fz1, fzT, fzL, nlt, e18]
  have p1' : smayV s = true := by simpa using p1
  rw [p1'] at e18
  have e19 := run19 hq1
  by_cases p2 : longV q = true
  · have hv : checkV s q = 2 := by unfold checkV; rw [if_neg p1, if_pos p2]
    rw [hv]
    rw [p2] at e19
    subst hH1
    obtain ⟨cols, k1, k2, k3, k4⟩ := s
    simp only [schD, schC, qryC] at *
    clear hv hs1 hb1 ht1 hq1
    rw [E_go (X := X) _ b10 _ rfl rfl]; unfold b10; (repeat (first | rw [s_assoc] | rw [s_seq_reg (by simp [go_sem, e18, e19]; exact ⟨rfl, rfl⟩)] | rw [s_cnd (by simp [lk, keepEnv, Od.v, e18, e19]; exact rfl)] | rw [cnd_t] | rw [cnd_f] | rw [s_skip] | rw [s_ret] | rw [s_exit] | rw [C_ret] | rw [C_exit] | rw [C_skip] | rw [blk_ret] | rw [blk_norm] | rw [blk_exit] | rw [blk_exit' (by decide)] | rw [blkT_ret] | rw [blkT_norm] | rw [blkT_exit] | rw [blkT_exit' (by decide)] | rw [s_blk] | rw [s_reg (by simp [go_sem, e18, e19]; exact ⟨rfl, rfl⟩)] | rw [t_cnd (by simp [lk, keepEnv, Od.v, e18, e19]; exact rfl)] | rw [t_blk])); simp [ends_ret, ends_norm, resL, go_sem, fin, fz0, fz1, fzT, fzL, nlt, e18, e19]
  have p2' : longV q = false := by simpa using p2
  rw [p2'] at e19
  have e20 := run20 (H := H1) hC hq1.f (by have := hq.nf; omega)
  by_cases p3 : filtV s q.filter 0 ≠ 0
  · have hv : checkV s q = filtV s q.filter 0 := by unfold checkV; rw [if_neg p1, if_neg p2, if_pos p3]
    rw [hv]
    have p3' : (filtV s q.filter 0 != 0) = true := by simpa using p3
    generalize filtV s q.filter 0 = r at *
    subst hH1
    obtain ⟨cols, k1, k2, k3, k4⟩ := s
    simp only [schD, schC, qryC] at *
    clear hv hs1 hb1 ht1 hq1
    rw [E_go (X := X) _ b10 _ rfl rfl]; unfold b10; (repeat (first | rw [s_assoc] | rw [s_seq_reg (by simp [go_sem, e18, e19, e20, p3, p3']; exact ⟨rfl, rfl⟩)] | rw [s_cnd (by simp [lk, keepEnv, Od.v, e18, e19, e20, p3, p3']; exact rfl)] | rw [cnd_t] | rw [cnd_f] | rw [s_skip] | rw [s_ret] | rw [s_exit] | rw [C_ret] | rw [C_exit] | rw [C_skip] | rw [blk_ret] | rw [blk_norm] | rw [blk_exit] | rw [blk_exit' (by decide)] | rw [blkT_ret] | rw [blkT_norm] | rw [blkT_exit] | rw [blkT_exit' (by decide)] | rw [s_blk] | rw [s_reg (by simp [go_sem, e18, e19, e20, p3, p3']; exact ⟨rfl, rfl⟩)] | rw [t_cnd (by simp [lk, keepEnv, Od.v, e18, e19, e20, p3, p3']; exact rfl)] | rw [t_blk])); simp [ends_ret, ends_norm, resL, go_sem, fin, fz0, fz1, fzT, fzL, nlt, e18, e19, e20, p3, p3']
  have p3' : filtV s q.filter 0 = 0 := by simpa using p3
  rw [p3'] at e20
  have e22 := fun g => run22 hq.c hq.g hq.nc hq.ng g
  have y1 := fun g => hq.c.elt hq.g g
  have y2 := hq.c.wc
  have y3 := hq.g.wc
  have y4 := hq.c.nr
  have y5 := hq.g.nr
  have v2 := hq.c.vw
  have v3 := hq.g.vw
  have v4 := hq.a
  have v5 := hq.s
  have hnc := hq.nc
  have hng := hq.ng
  have hna := hq.na
  have hns := hq.ns
  obtain ⟨l, hll⟩ : ∃ l, l = q.cols ++ q.group := ⟨_, rfl⟩
  have hlen : l.length ≤ 2000 := by rw [hll, List.length_append]; omega
  rw [← hll] at e22
  -- what is told behind Concat
  have tail : ∀ (T : Heap) (Lq : DV), vw (H1 ++ T) 1 Lq = some (l.map intD) → E X 21 [Lq, .func 23 [] [.ref H.length 0]] (H1 ++ T) = some (.bool (l.any fun k => !hasV s k), H1 ++ T) :=
    fun T Lq hL => run21 hL (fun x _ => run23 hC (hs1 T) x) (by omega)
  have tail2 : ∀ (T : Heap), E X 26 [So, .func 27 [] [.ref (H.length + 1) 0]] (H1 ++ T) = some (.bool (q.sort.any fun x => decide (x.1 < 0) || decide ((outsN q : Int) ≤ x.1)), H1 ++ T) :=
    fun T => run26 (v5 _) (fun x _ => run27 (hq1.ext T) (hb1 T) x) (by omega)
  have lps := fun (T : Heap) => loop10 (b := H.length) (b2 := H.length + 1) hC v4 hna q.aggs.length 0 (H1 ++ T) (by omega) (by omega) (hs1 T)
  have z9 : IntKind.i64.wrap ((q.group.length : Int) + (q.aggs.length : Int)) = ((q.group.length + q.aggs.length : Nat) : Int) := (by rw [wrap64 _ (by omega) (by omega)]; omega)
  by_cases hl0 : l = []
  · have hcon : conD l = .nils := by rw [hl0]; rfl
    rw [hcon] at e22
    have e21 := tail [] .nils (by rw [hl0]; rfl)
    by_cases p4 : (q.cols ++ q.group).any (fun k => !hasV s k) = true
    · have hv : checkV s q = 3 := by unfold checkV; rw [if_neg p1, if_neg p2, if_neg p3, if_pos p4]
      rw [hv]
      rw [show (l.any fun k => !hasV s k) = true by rw [hll]; exact p4] at e21
      have hfin := fin_int (r := 3) (ht1 [])
      clear hv hb1 ht1 hq1 tail tail2 lps hll
      subst hH1
      obtain ⟨cols, k1, k2, k3, k4⟩ := s
      obtain ⟨fl, co, gr, ag, so, lim⟩ := q
      simp only [schD, schC, qryC, List.append_nil, List.append_assoc, List.cons_append, List.nil_append, List.length_append, List.length_cons, List.length_nil, Nat.zero_add, Nat.reduceAdd] at *
      rw [E_go (X := X) _ b10 _ rfl rfl]; unfold b10; (repeat (first | rw [s_assoc] | rw [s_seq_reg (by simp [go_sem, e18, e19, e20, e22, e21, y1, y2, y3, y4, y5]; exact ⟨rfl, rfl⟩)] | rw [s_cnd (by simp [lk, keepEnv, Od.v, e18, e19, e20, e22, e21, y1, y2, y3, y4, y5]; exact rfl)] | rw [cnd_t] | rw [cnd_f] | rw [s_skip] | rw [s_ret] | rw [s_exit] | rw [C_ret] | rw [C_exit] | rw [C_skip] | rw [blk_ret] | rw [blk_norm] | rw [blk_exit] | rw [blk_exit' (by decide)] | rw [blkT_ret] | rw [blkT_norm] | rw [blkT_exit] | rw [blkT_exit' (by decide)] | rw [s_blk] | rw [s_reg (by simp [go_sem, e18, e19, e20, e22, e21, y1, y2, y3, y4, y5]; exact ⟨rfl, rfl⟩)] | rw [t_cnd (by simp [lk, keepEnv, Od.v, e18, e19, e20, e22, e21, y1, y2, y3, y4, y5]; exact rfl)] | rw [t_blk])); simp [ends_ret, ends_norm, resL, go_sem, fin, fz0, fz1, fzT, fzL, nlt, e18, e19, e20, e22, e21, y1, y2, y3, y4, y5]
    have p4' : (q.cols ++ q.group).any (fun k => !hasV s k) = false := by simpa using p4
    rw [show (l.any fun k => !hasV s k) = false by rw [hll]; exact p4'] at e21
    rcases lps [] with ⟨ex, G, hc, hag⟩ | ⟨G, hc, hag⟩
    · rw [List.drop_zero] at hag
      rw [show ((0 : Nat) : Int) = 0 from rfl] at hc
      have e26 := tail2 ([] ++ G)
      obtain ⟨h3, hh3⟩ : ∃ h3, h3 = H1 ++ ([] ++ G) := ⟨_, rfl⟩
      have hh3' : H1 ++ [] ++ G = h3 := by rw [hh3, List.append_assoc]
      have hb3 := hb1 ([] ++ G)
      have ht3 := ht1 ([] ++ G)
      rw [← hh3] at e26 hb3 ht3
      rw [hh3'] at hc
      clear hh3 hh3' hb1 ht1 hq1 tail tail2 lps hs1
      by_cases p6 : decide (0 < q.group.length + q.aggs.length) = decide (0 < q.cols.length)
      · have hv : checkV s q = 5 := by unfold checkV; rw [if_neg p1, if_neg p2, if_neg p3, if_neg p4, if_neg (by simpa using hag), if_pos p6]
        rw [hv]
        have hfin := fin_int (r := 5) ht3
        have p6' : (decide ((0 : Int) < ((q.group.length + q.aggs.length : Nat) : Int)) == decide ((0 : Int) < (q.cols.length : Int))) = true := by
          rw [beq_iff_eq]
          by_cases x1 : 0 < q.group.length + q.aggs.length <;> by_cases x2 : 0 < q.cols.length <;> simp [x1, x2] at p6 ⊢ <;> omega
        clear hv hll e26 ht3 hag
        subst hH1
        obtain ⟨cols, k1, k2, k3, k4⟩ := s
        obtain ⟨fl, co, gr, ag, so, lim⟩ := q
        simp only [schD, schC, qryC, List.append_nil, List.append_assoc, List.cons_append, List.nil_append, List.length_append, List.length_cons, List.length_nil, Nat.zero_add, Nat.reduceAdd] at *
        obtain ⟨gn, hgn⟩ : ∃ n, n = gr.length + ag.length := ⟨_, rfl⟩
        rw [← hgn] at z9 p6' p6
        have p6n : (decide (0 < gn) == decide (0 < co.length)) = true := by rw [beq_iff_eq]; exact p6
        rw [E_go (X := X) _ b10 _ rfl rfl]; unfold b10
        (repeat (first | rw [s_assoc] | rw [s_seq_reg (by simp [go_sem, e18, e19, e20, e22, e21, y1, y2, y3, y4, y5, v4]; exact ⟨rfl, rfl⟩)] | rw [s_cnd (by simp [lk, keepEnv, Od.v, e18, e19, e20, e22, e21, y1, y2, y3, y4, y5, v4]; exact rfl)] | rw [cnd_t] | rw [cnd_f] | rw [s_skip] | rw [s_ret] | rw [s_exit] | rw [C_ret] | rw [C_exit] | rw [C_skip] | rw [blk_ret] | rw [blk_norm] | rw [blk_exit] | rw [blk_exit' (by decide)] | rw [blkT_ret] | rw [blkT_norm] | rw [blkT_exit] | rw [blkT_exit' (by decide)] | rw [s_blk] | rw [s_reg (by simp [go_sem, e18, e19, e20, e22, e21, y1, y2, y3, y4, y5, v4]; exact ⟨rfl, rfl⟩)] | rw [t_cnd (by simp [lk, keepEnv, Od.v, e18, e19, e20, e22, e21, y1, y2, y3, y4, y5, v4]; exact rfl)] | rw [t_blk]))
        (try simp only [keepEnv, List.map_cons, List.map_nil, lk, reduceIte, Nat.reduceEqDiff, Nat.zero_ne_one, Nat.one_ne_zero])
        rw [hc]
        (repeat (first | rw [s_assoc] | rw [s_seq_reg (by simp [go_sem, hb3, v2, v3, v4, z9, eqk, p6n, p6']; exact ⟨rfl, rfl⟩)] | rw [s_cnd (by simp [lk, keepEnv, Od.v, hb3, v2, v3, v4, z9, eqk, p6n, p6']; exact rfl)] | rw [cnd_t] | rw [cnd_f] | rw [s_skip] | rw [s_ret] | rw [s_exit] | rw [C_ret] | rw [C_exit] | rw [C_skip] | rw [blk_ret] | rw [blk_norm] | rw [blk_exit] | rw [blk_exit' (by decide)] | rw [blkT_ret] | rw [blkT_norm] | rw [blkT_exit] | rw [blkT_exit' (by decide)] | rw [s_blk] | rw [s_reg (by simp [go_sem, hb3, v2, v3, v4, z9, eqk, p6n, p6']; exact ⟨rfl, rfl⟩)] | rw [t_cnd (by simp [lk, keepEnv, Od.v, hb3, v2, v3, v4, z9, eqk, p6n, p6']; exact rfl)] | rw [t_blk]))
        rw [ends_ret]
        simp [resL, lk, keepEnv, hfin]
      · have p6' : (decide ((0 : Int) < ((q.group.length + q.aggs.length : Nat) : Int)) == decide ((0 : Int) < (q.cols.length : Int))) = false := by
          rw [Bool.eq_false_iff]
          intro h
          rw [beq_iff_eq] at h
          by_cases x1 : 0 < q.group.length + q.aggs.length <;> by_cases x2 : 0 < q.cols.length <;> simp [x1, x2] at p6 h <;> omega
        obtain ⟨r, hr, hv⟩ : ∃ r, r = (q.sort.any fun x => decide (x.1 < 0) || decide ((outsN q : Int) ≤ x.1)) ∧ checkV s q = if r = true then 3 else 0 := ⟨_, rfl, by unfold checkV; rw [if_neg p1, if_neg p2, if_neg p3, if_neg p4, if_neg (by simpa using hag), if_neg p6]⟩
        rw [hv]
        rw [← hr] at e26
        clear hv hll hag hr
        subst hH1
        obtain ⟨cols, k1, k2, k3, k4⟩ := s
        obtain ⟨fl, co, gr, ag, so, lim⟩ := q
        simp only [schD, schC, qryC, List.append_nil, List.append_assoc, List.cons_append, List.nil_append, List.length_append, List.length_cons, List.length_nil, Nat.zero_add, Nat.reduceAdd] at *
        obtain ⟨gn, hgn⟩ : ∃ n, n = gr.length + ag.length := ⟨_, rfl⟩
        rw [← hgn] at z9 p6' p6
        have p6n : (decide (0 < gn) == decide (0 < co.length)) = false := by rw [Bool.eq_false_iff]; intro h; rw [beq_iff_eq] at h; exact p6 h
        rw [E_go (X := X) _ b10 _ rfl rfl]; unfold b10
        (repeat (first | rw [s_assoc] | rw [s_seq_reg (by simp [go_sem, e18, e19, e20, e22, e21, y1, y2, y3, y4, y5, v4]; exact ⟨rfl, rfl⟩)] | rw [s_cnd (by simp [lk, keepEnv, Od.v, e18, e19, e20, e22, e21, y1, y2, y3, y4, y5, v4]; exact rfl)] | rw [cnd_t] | rw [cnd_f] | rw [s_skip] | rw [s_ret] | rw [s_exit] | rw [C_ret] | rw [C_exit] | rw [C_skip] | rw [blk_ret] | rw [blk_norm] | rw [blk_exit] | rw [blk_exit' (by decide)] | rw [blkT_ret] | rw [blkT_norm] | rw [blkT_exit] | rw [blkT_exit' (by decide)] | rw [s_blk] | rw [s_reg (by simp [go_sem, e18, e19, e20, e22, e21, y1, y2, y3, y4, y5, v4]; exact ⟨rfl, rfl⟩)] | rw [t_cnd (by simp [lk, keepEnv, Od.v, e18, e19, e20, e22, e21, y1, y2, y3, y4, y5, v4]; exact rfl)] | rw [t_blk]))
        (try simp only [keepEnv, List.map_cons, List.map_nil, lk, reduceIte, Nat.reduceEqDiff, Nat.zero_ne_one, Nat.one_ne_zero])
        rw [hc]
        cases r
        · have hfin := fin_int (r := 0) ht3
          (repeat (first | rw [s_assoc] | rw [s_seq_reg (by simp [go_sem, hb3, v2, v3, v4, z9, eqk, p6n, p6', e26]; exact ⟨rfl, rfl⟩)] | rw [s_cnd (by simp [lk, keepEnv, Od.v, hb3, v2, v3, v4, z9, eqk, p6n, p6', e26]; exact rfl)] | rw [cnd_t] | rw [cnd_f] | rw [s_skip] | rw [s_ret] | rw [s_exit] | rw [C_ret] | rw [C_exit] | rw [C_skip] | rw [blk_ret] | rw [blk_norm] | rw [blk_exit] | rw [blk_exit' (by decide)] | rw [blkT_ret] | rw [blkT_norm] | rw [blkT_exit] | rw [blkT_exit' (by decide)] | rw [s_blk] | rw [s_reg (by simp [go_sem, hb3, v2, v3, v4, z9, eqk, p6n, p6', e26]; exact ⟨rfl, rfl⟩)] | rw [t_cnd (by simp [lk, keepEnv, Od.v, hb3, v2, v3, v4, z9, eqk, p6n, p6', e26]; exact rfl)] | rw [t_blk]))
          rw [ends_ret]
          simp [resL, lk, keepEnv, hfin]
        · have hfin := fin_int (r := 3) ht3
          (repeat (first | rw [s_assoc] | rw [s_seq_reg (by simp [go_sem, hb3, v2, v3, v4, z9, eqk, p6n, p6', e26]; exact ⟨rfl, rfl⟩)] | rw [s_cnd (by simp [lk, keepEnv, Od.v, hb3, v2, v3, v4, z9, eqk, p6n, p6', e26]; exact rfl)] | rw [cnd_t] | rw [cnd_f] | rw [s_skip] | rw [s_ret] | rw [s_exit] | rw [C_ret] | rw [C_exit] | rw [C_skip] | rw [blk_ret] | rw [blk_norm] | rw [blk_exit] | rw [blk_exit' (by decide)] | rw [blkT_ret] | rw [blkT_norm] | rw [blkT_exit] | rw [blkT_exit' (by decide)] | rw [s_blk] | rw [s_reg (by simp [go_sem, hb3, v2, v3, v4, z9, eqk, p6n, p6', e26]; exact ⟨rfl, rfl⟩)] | rw [t_cnd (by simp [lk, keepEnv, Od.v, hb3, v2, v3, v4, z9, eqk, p6n, p6', e26]; exact rfl)] | rw [t_blk]))
          rw [ends_ret]
          simp [resL, lk, keepEnv, hfin]
    · rw [List.drop_zero] at hag hc
      rw [show ((0 : Nat) : Int) = 0 from rfl] at hc
      have hv : checkV s q = aggsV s q.aggs := by unfold checkV; rw [if_neg p1, if_neg p2, if_neg p3, if_neg p4, if_pos hag]
      rw [hv]
      have ht3 := ht1 ([] ++ G)
      have hfin := fin_int (r := aggsV s q.aggs) ht3
      rw [← List.append_assoc] at hfin
      generalize aggsV s q.aggs = r at *
      clear hv hb1 ht1 hq1 tail tail2 lps hll hag ht3
      generalize H1 ++ [] ++ G = h3 at hc hfin
      subst hH1
      obtain ⟨cols, k1, k2, k3, k4⟩ := s
      obtain ⟨fl, co, gr, ag, so, lim⟩ := q
      simp only [schD, schC, qryC, List.append_nil, List.append_assoc, List.cons_append, List.nil_append, List.length_append, List.length_cons, List.length_nil, Nat.zero_add, Nat.reduceAdd] at *
      rw [E_go (X := X) _ b10 _ rfl rfl]; unfold b10
      (repeat (first | rw [s_assoc] | rw [s_seq_reg (by simp [go_sem, e18, e19, e20, e22, e21, y1, y2, y3, y4, y5, v4]; exact ⟨rfl, rfl⟩)] | rw [s_cnd (by simp [lk, keepEnv, Od.v, e18, e19, e20, e22, e21, y1, y2, y3, y4, y5, v4]; exact rfl)] | rw [cnd_t] | rw [cnd_f] | rw [s_skip] | rw [s_ret] | rw [s_exit] | rw [C_ret] | rw [C_exit] | rw [C_skip] | rw [blk_ret] | rw [blk_norm] | rw [blk_exit] | rw [blk_exit' (by decide)] | rw [blkT_ret] | rw [blkT_norm] | rw [blkT_exit] | rw [blkT_exit' (by decide)] | rw [s_blk] | rw [s_reg (by simp [go_sem, e18, e19, e20, e22, e21, y1, y2, y3, y4, y5, v4]; exact ⟨rfl, rfl⟩)] | rw [t_cnd (by simp [lk, keepEnv, Od.v, e18, e19, e20, e22, e21, y1, y2, y3, y4, y5, v4]; exact rfl)] | rw [t_blk]))
      (try simp only [keepEnv, List.map_cons, List.map_nil, lk, reduceIte, Nat.reduceEqDiff, Nat.zero_ne_one, Nat.one_ne_zero])
      rw [hc]
      (repeat (first | rw [s_assoc] | rw [s_seq_reg (by simp [go_sem]; exact ⟨rfl, rfl⟩)] | rw [s_cnd (by simp [lk, keepEnv, Od.v]; exact rfl)] | rw [cnd_t] | rw [cnd_f] | rw [s_skip] | rw [s_ret] | rw [s_exit] | rw [C_ret] | rw [C_exit] | rw [C_skip] | rw [blk_ret] | rw [blk_norm] | rw [blk_exit] | rw [blk_exit' (by decide)] | rw [blkT_ret] | rw [blkT_norm] | rw [blkT_exit] | rw [blkT_exit' (by decide)] | rw [s_blk] | rw [s_reg (by simp [go_sem]; exact ⟨rfl, rfl⟩)] | rw [t_cnd (by simp [lk, keepEnv, Od.v]; exact rfl)] | rw [t_blk]))
      rw [ends_ret]
      simp [resL, lk, keepEnv, hfin]
  · have hcon : conD l = .fresh 3 1 (l.map intD) := by unfold conD; rw [if_neg hl0]
    rw [hcon] at e22
    have hmap : (l.map intD).length = l.length := by simp
    have e21 := tail [HO.row 3 1 0 (l.map intD)] (.row H1.length 0 0 l.length false) (by simp [vw, List.take_of_length_le])
    by_cases p4 : (q.cols ++ q.group).any (fun k => !hasV s k) = true
    · have hv : checkV s q = 3 := by unfold checkV; rw [if_neg p1, if_neg p2, if_neg p3, if_pos p4]
      rw [hv]
      rw [show (l.any fun k => !hasV s k) = true by rw [hll]; exact p4] at e21
      have hfin := fin_int (r := 3) (ht1 [HO.row 3 1 0 (l.map intD)])
      clear hv hb1 ht1 hq1 tail tail2 lps hll
      subst hH1
      obtain ⟨cols, k1, k2, k3, k4⟩ := s
      obtain ⟨fl, co, gr, ag, so, lim⟩ := q
      simp only [schD, schC, qryC, List.append_nil, List.append_assoc, List.cons_append, List.nil_append, List.length_append, List.length_cons, List.length_nil, Nat.zero_add, Nat.reduceAdd] at *
      rw [E_go (X := X) _ b10 _ rfl rfl]; unfold b10; (repeat (first | rw [s_assoc] | rw [s_seq_reg (by simp [go_sem, e18, e19, e20, e22, e21, y1, y2, y3, y4, y5]; exact ⟨rfl, rfl⟩)] | rw [s_cnd (by simp [lk, keepEnv, Od.v, e18, e19, e20, e22, e21, y1, y2, y3, y4, y5]; exact rfl)] | rw [cnd_t] | rw [cnd_f] | rw [s_skip] | rw [s_ret] | rw [s_exit] | rw [C_ret] | rw [C_exit] | rw [C_skip] | rw [blk_ret] | rw [blk_norm] | rw [blk_exit] | rw [blk_exit' (by decide)] | rw [blkT_ret] | rw [blkT_norm] | rw [blkT_exit] | rw [blkT_exit' (by decide)] | rw [s_blk] | rw [s_reg (by simp [go_sem, e18, e19, e20, e22, e21, y1, y2, y3, y4, y5]; exact ⟨rfl, rfl⟩)] | rw [t_cnd (by simp [lk, keepEnv, Od.v, e18, e19, e20, e22, e21, y1, y2, y3, y4, y5]; exact rfl)] | rw [t_blk])); simp [ends_ret, ends_norm, resL, go_sem, fin, fz0, fz1, fzT, fzL, nlt, e18, e19, e20, e22, e21, y1, y2, y3, y4, y5]
    have p4' : (q.cols ++ q.group).any (fun k => !hasV s k) = false := by simpa using p4
    rw [show (l.any fun k => !hasV s k) = false by rw [hll]; exact p4'] at e21
    rcases lps [HO.row 3 1 0 (l.map intD)] with ⟨ex, G, hc, hag⟩ | ⟨G, hc, hag⟩
    · rw [List.drop_zero] at hag
      rw [show ((0 : Nat) : Int) = 0 from rfl] at hc
      have e26 := tail2 ([HO.row 3 1 0 (l.map intD)] ++ G)
      obtain ⟨h3, hh3⟩ : ∃ h3, h3 = H1 ++ ([HO.row 3 1 0 (l.map intD)] ++ G) := ⟨_, rfl⟩
      have hh3' : H1 ++ [HO.row 3 1 0 (l.map intD)] ++ G = h3 := by rw [hh3, List.append_assoc]
      have hb3 := hb1 ([HO.row 3 1 0 (l.map intD)] ++ G)
      have ht3 := ht1 ([HO.row 3 1 0 (l.map intD)] ++ G)
      rw [← hh3] at e26 hb3 ht3
      rw [hh3'] at hc
      clear hh3 hh3' hb1 ht1 hq1 tail tail2 lps hs1
      by_cases p6 : decide (0 < q.group.length + q.aggs.length) = decide (0 < q.cols.length)
      · have hv : checkV s q = 5 := by unfold checkV; rw [if_neg p1, if_neg p2, if_neg p3, if_neg p4, if_neg (by simpa using hag), if_pos p6]
        rw [hv]
        have hfin := fin_int (r := 5) ht3
        have p6' : (decide ((0 : Int) < ((q.group.length + q.aggs.length : Nat) : Int)) == decide ((0 : Int) < (q.cols.length : Int))) = true := by
          rw [beq_iff_eq]
          by_cases x1 : 0 < q.group.length + q.aggs.length <;> by_cases x2 : 0 < q.cols.length <;> simp [x1, x2] at p6 ⊢ <;> omega
        clear hv hll e26 ht3 hag
        subst hH1
        obtain ⟨cols, k1, k2, k3, k4⟩ := s
        obtain ⟨fl, co, gr, ag, so, lim⟩ := q
        simp only [schD, schC, qryC, List.append_nil, List.append_assoc, List.cons_append, List.nil_append, List.length_append, List.length_cons, List.length_nil, Nat.zero_add, Nat.reduceAdd] at *
        obtain ⟨gn, hgn⟩ : ∃ n, n = gr.length + ag.length := ⟨_, rfl⟩
        rw [← hgn] at z9 p6' p6
        have p6n : (decide (0 < gn) == decide (0 < co.length)) = true := by rw [beq_iff_eq]; exact p6
        rw [E_go (X := X) _ b10 _ rfl rfl]; unfold b10
        (repeat (first | rw [s_assoc] | rw [s_seq_reg (by simp [go_sem, e18, e19, e20, e22, e21, y1, y2, y3, y4, y5, v4]; exact ⟨rfl, rfl⟩)] | rw [s_cnd (by simp [lk, keepEnv, Od.v, e18, e19, e20, e22, e21, y1, y2, y3, y4, y5, v4]; exact rfl)] | rw [cnd_t] | rw [cnd_f] | rw [s_skip] | rw [s_ret] | rw [s_exit] | rw [C_ret] | rw [C_exit] | rw [C_skip] | rw [blk_ret] | rw [blk_norm] | rw [blk_exit] | rw [blk_exit' (by decide)] | rw [blkT_ret] | rw [blkT_norm] | rw [blkT_exit] | rw [blkT_exit' (by decide)] | rw [s_blk] | rw [s_reg (by simp [go_sem, e18, e19, e20, e22, e21, y1, y2, y3, y4, y5, v4]; exact ⟨rfl, rfl⟩)] | rw [t_cnd (by simp [lk, keepEnv, Od.v, e18, e19, e20, e22, e21, y1, y2, y3, y4, y5, v4]; exact rfl)] | rw [t_blk]))
        (try simp only [keepEnv, List.map_cons, List.map_nil, lk, reduceIte, Nat.reduceEqDiff, Nat.zero_ne_one, Nat.one_ne_zero])
        rw [hc]
        (repeat (first | rw [s_assoc] | rw [s_seq_reg (by simp [go_sem, hb3, v2, v3, v4, z9, eqk, p6n, p6']; exact ⟨rfl, rfl⟩)] | rw [s_cnd (by simp [lk, keepEnv, Od.v, hb3, v2, v3, v4, z9, eqk, p6n, p6']; exact rfl)] | rw [cnd_t] | rw [cnd_f] | rw [s_skip] | rw [s_ret] | rw [s_exit] | rw [C_ret] | rw [C_exit] | rw [C_skip] | rw [blk_ret] | rw [blk_norm] | rw [blk_exit] | rw [blk_exit' (by decide)] | rw [blkT_ret] | rw [blkT_norm] | rw [blkT_exit] | rw [blkT_exit' (by decide)] | rw [s_blk] | rw [s_reg (by simp [go_sem, hb3, v2, v3, v4, z9, eqk, p6n, p6']; exact ⟨rfl, rfl⟩)] | rw [t_cnd (by simp [lk, keepEnv, Od.v, hb3, v2, v3, v4, z9, eqk, p6n, p6']; exact rfl)] | rw [t_blk]))
        rw [ends_ret]
        simp [resL, lk, keepEnv, hfin]
      · have p6' : (decide ((0 : Int) < ((q.group.length + q.aggs.length : Nat) : Int)) == decide ((0 : Int) < (q.cols.length : Int))) = false := by
          rw [Bool.eq_false_iff]
          intro h
          rw [beq_iff_eq] at h
          by_cases x1 : 0 < q.group.length + q.aggs.length <;> by_cases x2 : 0 < q.cols.length <;> simp [x1, x2] at p6 h <;> omega
        obtain ⟨r, hr, hv⟩ : ∃ r, r = (q.sort.any fun x => decide (x.1 < 0) || decide ((outsN q : Int) ≤ x.1)) ∧ checkV s q = if r = true then 3 else 0 := ⟨_, rfl, by unfold checkV; rw [if_neg p1, if_neg p2, if_neg p3, if_neg p4, if_neg (by simpa using hag), if_neg p6]⟩
        rw [hv]
        rw [← hr] at e26
        clear hv hll hag hr
        subst hH1
        obtain ⟨cols, k1, k2, k3, k4⟩ := s
        obtain ⟨fl, co, gr, ag, so, lim⟩ := q
        simp only [schD, schC, qryC, List.append_nil, List.append_assoc, List.cons_append, List.nil_append, List.length_append, List.length_cons, List.length_nil, Nat.zero_add, Nat.reduceAdd] at *
        obtain ⟨gn, hgn⟩ : ∃ n, n = gr.length + ag.length := ⟨_, rfl⟩
        rw [← hgn] at z9 p6' p6
        have p6n : (decide (0 < gn) == decide (0 < co.length)) = false := by rw [Bool.eq_false_iff]; intro h; rw [beq_iff_eq] at h; exact p6 h
        rw [E_go (X := X) _ b10 _ rfl rfl]; unfold b10
        (repeat (first | rw [s_assoc] | rw [s_seq_reg (by simp [go_sem, e18, e19, e20, e22, e21, y1, y2, y3, y4, y5, v4]; exact ⟨rfl, rfl⟩)] | rw [s_cnd (by simp [lk, keepEnv, Od.v, e18, e19, e20, e22, e21, y1, y2, y3, y4, y5, v4]; exact rfl)] | rw [cnd_t] | rw [cnd_f] | rw [s_skip] | rw [s_ret] | rw [s_exit] | rw [C_ret] | rw [C_exit] | rw [C_skip] | rw [blk_ret] | rw [blk_norm] | rw [blk_exit] | rw [blk_exit' (by decide)] | rw [blkT_ret] | rw [blkT_norm] | rw [blkT_exit] | rw [blkT_exit' (by decide)] | rw [s_blk] | rw [s_reg (by simp [go_sem, e18, e19, e20, e22, e21, y1, y2, y3, y4, y5, v4]; exact ⟨rfl, rfl⟩)] | rw [t_cnd (by simp [lk, keepEnv, Od.v, e18, e19, e20, e22, e21, y1, y2, y3, y4, y5, v4]; exact rfl)] | rw [t_blk]))
        (try simp only [keepEnv, List.map_cons, List.map_nil, lk, reduceIte, Nat.reduceEqDiff, Nat.zero_ne_one, Nat.one_ne_zero])
        rw [hc]
        cases r
        · have hfin := fin_int (r := 0) ht3
          (repeat (first | rw [s_assoc] | rw [s_seq_reg (by simp [go_sem, hb3, v2, v3, v4, z9, eqk, p6n, p6', e26]; exact ⟨rfl, rfl⟩)] | rw [s_cnd (by simp [lk, keepEnv, Od.v, hb3, v2, v3, v4, z9, eqk, p6n, p6', e26]; exact rfl)] | rw [cnd_t] | rw [cnd_f] | rw [s_skip] | rw [s_ret] | rw [s_exit] | rw [C_ret] | rw [C_exit] | rw [C_skip] | rw [blk_ret] | rw [blk_norm] | rw [blk_exit] | rw [blk_exit' (by decide)] | rw [blkT_ret] | rw [blkT_norm] | rw [blkT_exit] | rw [blkT_exit' (by decide)] | rw [s_blk] | rw [s_reg (by simp [go_sem, hb3, v2, v3, v4, z9, eqk, p6n, p6', e26]; exact ⟨rfl, rfl⟩)] | rw [t_cnd (by simp [lk, keepEnv, Od.v, hb3, v2, v3, v4, z9, eqk, p6n, p6', e26]; exact rfl)] | rw [t_blk]))
          rw [ends_ret]
          simp [resL, lk, keepEnv, hfin]
        · have hfin := fin_int (r := 3) ht3
          (repeat (first | rw [s_assoc] | rw [s_seq_reg (by simp [go_sem, hb3, v2, v3, v4, z9, eqk, p6n, p6', e26]; exact ⟨rfl, rfl⟩)] | rw [s_cnd (by simp [lk, keepEnv, Od.v, hb3, v2, v3, v4, z9, eqk, p6n, p6', e26]; exact rfl)] | rw [cnd_t] | rw [cnd_f] | rw [s_skip] | rw [s_ret] | rw [s_exit] | rw [C_ret] | rw [C_exit] | rw [C_skip] | rw [blk_ret] | rw [blk_norm] | rw [blk_exit] | rw [blk_exit' (by decide)] | rw [blkT_ret] | rw [blkT_norm] | rw [blkT_exit] | rw [blkT_exit' (by decide)] | rw [s_blk] | rw [s_reg (by simp [go_sem, hb3, v2, v3, v4, z9, eqk, p6n, p6', e26]; exact ⟨rfl, rfl⟩)] | rw [t_cnd (by simp [lk, keepEnv, Od.v, hb3, v2, v3, v4, z9, eqk, p6n, p6', e26]; exact rfl)] | rw [t_blk]))
          rw [ends_ret]
          simp [resL, lk, keepEnv, hfin]
    · rw [List.drop_zero] at hag hc
      rw [show ((0 : Nat) : Int) = 0 from rfl] at hc
      have hv : checkV s q = aggsV s q.aggs := by unfold checkV; rw [if_neg p1, if_neg p2, if_neg p3, if_neg p4, if_pos hag]
      rw [hv]
      have ht3 := ht1 ([HO.row 3 1 0 (l.map intD)] ++ G)
      have hfin := fin_int (r := aggsV s q.aggs) ht3
      rw [← List.append_assoc] at hfin
      generalize aggsV s q.aggs = r at *
      clear hv hb1 ht1 hq1 tail tail2 lps hll hag ht3
      generalize H1 ++ [HO.row 3 1 0 (l.map intD)] ++ G = h3 at hc hfin
      subst hH1
      obtain ⟨cols, k1, k2, k3, k4⟩ := s
      obtain ⟨fl, co, gr, ag, so, lim⟩ := q
      simp only [schD, schC, qryC, List.append_nil, List.append_assoc, List.cons_append, List.nil_append, List.length_append, List.length_cons, List.length_nil, Nat.zero_add, Nat.reduceAdd] at *
      rw [E_go (X := X) _ b10 _ rfl rfl]; unfold b10
      (repeat (first | rw [s_assoc] | rw [s_seq_reg (by simp [go_sem, e18, e19, e20, e22, e21, y1, y2, y3, y4, y5, v4]; exact ⟨rfl, rfl⟩)] | rw [s_cnd (by simp [lk, keepEnv, Od.v, e18, e19, e20, e22, e21, y1, y2, y3, y4, y5, v4]; exact rfl)] | rw [cnd_t] | rw [cnd_f] | rw [s_skip] | rw [s_ret] | rw [s_exit] | rw [C_ret] | rw [C_exit] | rw [C_skip] | rw [blk_ret] | rw [blk_norm] | rw [blk_exit] | rw [blk_exit' (by decide)] | rw [blkT_ret] | rw [blkT_norm] | rw [blkT_exit] | rw [blkT_exit' (by decide)] | rw [s_blk] | rw [s_reg (by simp [go_sem, e18, e19, e20, e22, e21, y1, y2, y3, y4, y5, v4]; exact ⟨rfl, rfl⟩)] | rw [t_cnd (by simp [lk, keepEnv, Od.v, e18, e19, e20, e22, e21, y1, y2, y3, y4, y5, v4]; exact rfl)] | rw [t_blk]))
      (try simp only [keepEnv, List.map_cons, List.map_nil, lk, reduceIte, Nat.reduceEqDiff, Nat.zero_ne_one, Nat.one_ne_zero])
      rw [hc]
      (repeat (first | rw [s_assoc] | rw [s_seq_reg (by simp [go_sem]; exact ⟨rfl, rfl⟩)] | rw [s_cnd (by simp [lk, keepEnv, Od.v]; exact rfl)] | rw [cnd_t] | rw [cnd_f] | rw [s_skip] | rw [s_ret] | rw [s_exit] | rw [C_ret] | rw [C_exit] | rw [C_skip] | rw [blk_ret] | rw [blk_norm] | rw [blk_exit] | rw [blk_exit' (by decide)] | rw [blkT_ret] | rw [blkT_norm] | rw [blkT_exit] | rw [blkT_exit' (by decide)] | rw [s_blk] | rw [s_reg (by simp [go_sem]; exact ⟨rfl, rfl⟩)] | rw [t_cnd (by simp [lk, keepEnv, Od.v]; exact rfl)] | rw [t_blk]))
      rw [ends_ret]
      simp [resL, lk, keepEnv, hfin]
end Go.Proofs.YtobpbjmnonbblaaDoor
