/- Ideal runs: slices.Compact over numbers. -/
import Derived.Test.YtobpbjmnonbblaaDoorQryM
namespace Go.Proofs.YtobpbjmnonbblaaDoor
attribute [local go_sem] evOps evOp_n evOp_r evOp_d evOp_dr kpo_refl kpo_app cnd_some cnd_pair cnd_cnd_t cnd_cnd_f cnd_same cnd_dvb cnd_and cnd_or gd_bool gd_boolf gd_tup cnd_t cnd_f evTo isCall evx put lk Od.v keepEnv enterEnv ldx_ref rdc binx binI binS unx eqk DV.isU DV.cells hget hget0 hset hset0 stx_ref splice fillp mat eqcs eqs one_bool one_int one_str one_nilp one_ref one_elem one_nils one_list one_row one_nilm one_map one_nilf one_func one_nili one_ifc one_agg one_tup one_undef one_fresh
attribute [local go_sem ↓] evx_pick
set_option linter.unusedVariables false
set_option linter.unusedSimpArgs false
set_option maxRecDepth 10000
/-- Each run of equal numbers once. -/
def cmpT : List Int → List Int
  | [] => []
  | [x] => [x]
  | x :: y :: l => if y = x then cmpT (y :: l) else x :: cmpT (y :: l)
theorem cmpT_snoc (y x : Int) : ∀ l : List Int, cmpT (l ++ [y, x]) = if x = y then cmpT (l ++ [y]) else cmpT (l ++ [y]) ++ [x]
  | [] => by
    by_cases h : x = y <;> simp [cmpT, h]
  | [a] => by
    by_cases h : x = y
    · subst h
      by_cases h2 : x = a
      · subst h2; simp [cmpT]
      · simp [cmpT, h2]
    · by_cases h2 : y = a
      · subst h2; simp [cmpT, h]
      · simp [cmpT, h, h2]
  | a :: b :: l => by
    have ih := cmpT_snoc y x (b :: l)
    simp only [List.cons_append] at *
    rw [cmpT, cmpT, ih]
    by_cases h : x = y <;> by_cases h2 : b = a <;> simp [h, h2]
theorem cmpT_take (l : List Int) (j : Nat) (h0 : 0 < j) (h : j < l.length) : cmpT (l.take (j + 1)) = if l[j] = l[j - 1]'(by omega) then cmpT (l.take j) else cmpT (l.take j) ++ [l[j]] := by
  obtain ⟨i, rfl⟩ : ∃ i, j = i + 1 := ⟨j - 1, by omega⟩
  have e1 : l.take (i + 1) = l.take i ++ [l[i]'(by omega)] := (List.take_append_getElem (by omega)).symm
  have e2 : l.take (i + 1 + 1) = l.take i ++ [l[i]'(by omega), l[i + 1]] := by
    rw [← List.take_append_getElem h, e1, List.append_assoc]; rfl
  rw [e2, e1, cmpT_snoc]
  rfl
theorem cmpT_le : ∀ l : List Int, (cmpT l).length ≤ l.length
  | [] => by simp [cmpT]
  | [x] => by simp [cmpT]
  | x :: y :: l => by
    have := cmpT_le (y :: l)
    rw [cmpT]
    split
    · simp only [List.length_cons] at *; omega
    · simp only [List.length_cons] at *; omega
theorem RowI.vw2 {h : Heap} {o g lo n : Nat} {l : List Int} {c : Bool} (hr : RowI h o g l) (hn : lo + n ≤ l.length) : ∃ vl, Go.Proofs.YtobpbjmnonbblaaDoor.vw h 1 (.row o g lo n c) = some vl ∧ vl.length = n ∧ ∀ (i : Nat) (x : Int), i < n → l[lo + i]? = some x → vl[i]? = some (.int .i64 x) ∧ ∀ pf : i < vl.length, vl[i]'pf = .int .i64 x := by
  refine ⟨_, hr.vw hn, by rw [List.length_map, List.length_take, List.length_drop]; omega, fun i x hi hx => ?_⟩
  have h1 : (((l.drop lo).take n).map intD)[i]? = some (.int .i64 x) := by
    rw [List.getElem?_map, List.getElem?_take_of_lt hi, List.getElem?_drop, hx]; rfl
  refine ⟨h1, fun pf => ?_⟩
  have := List.getElem?_eq_getElem pf
  rw [h1] at this
  exact (Option.some.inj this).symm
theorem loop33_1 {H : Heap} {ss zs : List Int} {o g k0 m : Nat} (hm : k0 + m = ss.length) (h0 : 0 < k0) (hb : ss.length ≤ 1000000) :
    ∀ (r k k2 : Nat) (cur : List Int), m - k2 ≤ r → 1 ≤ k2 → k2 ≤ m → k < k0 + k2 → RowI (H.set o (.row 3 1 g (cur.map intD))) o g cur → cur.length = ss.length + zs.length → cur.take k = cmpT (ss.take (k0 + k2)) → k = (cmpT (ss.take (k0 + k2))).length → (∀ i, k0 + k2 - 1 ≤ i → i < ss.length → cur[i]? = ss[i]?) → cur.drop ss.length = zs →
    ∃ k' cur' ex, C X (.loop lp33_1) [(0, .row o g 0 ss.length false), (3, .int .i64 k), (4, .row o g k0 m false), (5, .int .i64 k2)] (H.set o (.row 3 1 g (cur.map intD))) = some (.exit 2, (0, .row o g 0 ss.length false) :: (3, .int .i64 (k' : Nat)) :: ex, H.set o (.row 3 1 g (cur'.map intD))) ∧
      k' < ss.length ∧ RowI (H.set o (.row 3 1 g (cur'.map intD))) o g cur' ∧ cur'.length = ss.length + zs.length ∧ cur'.take k' = cmpT ss ∧ k' = (cmpT ss).length ∧ cur'.drop ss.length = zs := by
  intro r
  induction r with
  | zero =>
    intro k k2 cur hk h1 h2 h3 hr hcl ht hi hp hd
    obtain rfl : k2 = m := by omega
    rw [hm, List.take_length] at ht hi
    refine ⟨k, cur, [(4, .row o g k0 k2 false), (5, .int .i64 k2), (32, .bool false)], ?_, by omega, hr, hcl, ht, hi, hd⟩
    obtain ⟨vl, hv, hln, -⟩ := hr.vw2 (c := false) (lo := k0) (n := k2) (by omega)
    rw [t_loop]
    unfold lp33_1
    (repeat (first | rw [s_assoc] | rw [s_seq_reg (by simp [go_sem, hv, hln]; exact ⟨rfl, rfl⟩)] | rw [s_cnd (by simp [lk, keepEnv, Od.v, hv, hln]; exact rfl)] | rw [cnd_t] | rw [cnd_f] | rw [s_skip] | rw [s_ret] | rw [s_exit] | rw [C_ret] | rw [C_exit] | rw [C_skip] | rw [blk_ret] | rw [blk_norm] | rw [blk_exit] | rw [blk_exit' (by decide)] | rw [blkT_ret] | rw [blkT_norm] | rw [blkT_exit] | rw [blkT_exit' (by decide)] | rw [s_blk] | rw [s_reg (by simp [go_sem, hv, hln]; exact ⟨rfl, rfl⟩)] | rw [t_cnd (by simp [lk, keepEnv, Od.v, hv, hln]; exact rfl)] | rw [t_blk]))
    rw [lp_exit]
    simp [keepEnv, lk]
  | succ r ih =>
    intro k k2 cur hk h1 h2 h3 hr hcl ht hi hp hd
    by_cases c : k2 < m
    · obtain ⟨K, hK⟩ : ∃ K, K = k2 + 1 := ⟨_, rfl⟩
      have z1 : IntKind.i64.wrap ((k2 : Int) + 1) = (K : Int) := (by rw [wrap64 _ (by omega) (by omega)]; omega)
      obtain ⟨q, hq⟩ : ∃ q, k2 = q + 1 := ⟨k2 - 1, by omega⟩
      have z2 : IntKind.i64.wrap ((k2 : Int) - 1) = (q : Int) := (by rw [wrap64 _ (by omega) (by omega)]; omega)
      have hj : k0 + k2 < ss.length := by omega
      have hj1 : k0 + k2 - 1 < ss.length := by omega
      obtain ⟨x, hx⟩ : ∃ x, x = ss[k0 + k2] := ⟨_, rfl⟩
      obtain ⟨y, hy⟩ : ∃ y, y = ss[k0 + k2 - 1] := ⟨_, rfl⟩
      have hcx : cur[k0 + k2]? = some x := by rw [hp _ (by omega) hj, hx]; exact List.getElem?_eq_getElem hj
      have hcy : cur[k0 + q]? = some y := by rw [show k0 + q = k0 + k2 - 1 by omega, hp _ (by omega) hj1, hy]; exact List.getElem?_eq_getElem hj1
      obtain ⟨vl, hv, hln, hvg⟩ := hr.vw2 (c := false) (lo := k0) (n := m) (by omega)
      obtain ⟨hx1, hx2⟩ := hvg k2 x c hcx
      obtain ⟨hy1, hy2⟩ := hvg q y (by omega) hcy
      have hq2 : q < m := by omega
      obtain ⟨vl0, hv0, hln0, -⟩ := hr.vw2 (c := false) (lo := 0) (n := ss.length) (by omega)
      have hct := cmpT_take ss (k0 + k2) (by omega) hj
      rw [← hx, ← hy, show k0 + k2 + 1 = k0 + K by omega] at hct
      by_cases he : x = y
      · rw [if_pos he] at hct
        have hIH := ih k K cur (by omega) (by omega) (by omega) (by omega) hr hcl (by rw [hct]; exact ht) (by rw [hct]; exact hi) (fun i a b => hp i (by omega) b) hd
        have he' : (x != y) = false := by simpa using he
        have hs : C X lp33_1 [(0, .row o g 0 ss.length false), (3, .int .i64 k), (4, .row o g k0 m false), (5, .int .i64 k2)] (H.set o (.row 3 1 g (cur.map intD))) = some (.norm, [(0, .row o g 0 ss.length false), (3, .int .i64 k), (4, .row o g k0 m false), (5, .int .i64 K)], H.set o (.row 3 1 g (cur.map intD))) := by
          clear ih hIH hr hd hx hy ht hi hct hp hvg
          generalize H.set o (.row 3 1 g (cur.map intD)) = h at *
          clear hcx hcy
          subst hln
          unfold lp33_1
          (repeat (first | rw [s_assoc] | rw [s_seq_reg (by simp [go_sem, c, z1, z2, hv, hx1, hx2, hy1, hy2, hq2, he', ldx]; exact ⟨rfl, rfl⟩)] | rw [s_cnd (by simp [lk, keepEnv, Od.v, c, z1, z2, hv, hx1, hx2, hy1, hy2, hq2, he', ldx]; exact rfl)] | rw [cnd_t] | rw [cnd_f] | rw [s_skip] | rw [s_ret] | rw [s_exit] | rw [C_ret] | rw [C_exit] | rw [C_skip] | rw [blk_ret] | rw [blk_norm] | rw [blk_exit] | rw [blk_exit' (by decide)] | rw [blkT_ret] | rw [blkT_norm] | rw [blkT_exit] | rw [blkT_exit' (by decide)] | rw [s_blk] | rw [s_reg (by simp [go_sem, c, z1, z2, hv, hx1, hx2, hy1, hy2, hq2, he', ldx]; exact ⟨rfl, rfl⟩)] | rw [t_cnd (by simp [lk, keepEnv, Od.v, c, z1, z2, hv, hx1, hx2, hy1, hy2, hq2, he', ldx]; exact rfl)] | rw [t_blk]))
          simp [keepEnv, lk]
        rw [t_loop, hs, lp_norm]
        exact hIH
      · rw [if_neg he] at hct
        obtain ⟨K3, hK3⟩ : ∃ K3, K3 = k + 1 := ⟨_, rfl⟩
        have z3 : IntKind.i64.wrap ((k : Int) + 1) = (K3 : Int) := (by rw [wrap64 _ (by omega) (by omega)]; omega)
        have hks : k < ss.length := by omega
        have hst := hr.st (c := false) (n := ss.length) (by omega) hks x
        rw [set_set_row] at hst
        have hr2 := hr.set (cur.set k x)
        rw [set_set_row] at hr2
        have hIH := ih K3 K (cur.set k x) (by omega) (by omega) (by omega) (by omega) hr2 (by rw [List.length_set]; exact hcl)
          (by rw [hK3, List.take_add_one, List.take_set_of_le (Nat.le_refl _), List.getElem?_set_self (by omega), hct, ht]; rfl)
          (by rw [hct, List.length_append, ← hi, hK3]; rfl)
          (fun i a b => by rw [List.getElem?_set_ne (by omega)]; exact hp i (by omega) b)
          (by rw [List.drop_set_of_lt (by omega)]; exact hd)
        have he' : (x != y) = true := by simpa using he
        have hs : C X lp33_1 [(0, .row o g 0 ss.length false), (3, .int .i64 k), (4, .row o g k0 m false), (5, .int .i64 k2)] (H.set o (.row 3 1 g (cur.map intD))) = some (.norm, [(0, .row o g 0 ss.length false), (3, .int .i64 K3), (4, .row o g k0 m false), (5, .int .i64 K)], H.set o (.row 3 1 g ((cur.set k x).map intD))) := by
          clear ih hIH hr hr2 hd hx hy ht hi hct hp hvg
          generalize H.set o (.row 3 1 g ((cur.set k x).map intD)) = h2 at *
          generalize H.set o (.row 3 1 g (cur.map intD)) = h at *
          clear hcx hcy
          subst hln
          generalize ss.length = n at *
          subst hln0
          unfold lp33_1
          (repeat (first | rw [s_assoc] | rw [s_seq_reg (by simp [go_sem, c, z1, z2, z3, hv, hv0, hx1, hx2, hy1, hy2, hq2, hks, he', hst, ldx]; exact ⟨rfl, rfl⟩)] | rw [s_cnd (by simp [lk, keepEnv, Od.v, c, z1, z2, z3, hv, hv0, hx1, hx2, hy1, hy2, hq2, hks, he', hst, ldx]; exact rfl)] | rw [cnd_t] | rw [cnd_f] | rw [s_skip] | rw [s_ret] | rw [s_exit] | rw [C_ret] | rw [C_exit] | rw [C_skip] | rw [blk_ret] | rw [blk_norm] | rw [blk_exit] | rw [blk_exit' (by decide)] | rw [blkT_ret] | rw [blkT_norm] | rw [blkT_exit] | rw [blkT_exit' (by decide)] | rw [s_blk] | rw [s_reg (by simp [go_sem, c, z1, z2, z3, hv, hv0, hx1, hx2, hy1, hy2, hq2, hks, he', hst, ldx]; exact ⟨rfl, rfl⟩)] | rw [t_cnd (by simp [lk, keepEnv, Od.v, c, z1, z2, z3, hv, hv0, hx1, hx2, hy1, hy2, hq2, hks, he', hst, ldx]; exact rfl)] | rw [t_blk]))
          simp [keepEnv, lk]
        rw [t_loop, hs, lp_norm]
        exact hIH
    · exact ih k k2 cur (by omega) h1 h2 h3 hr hcl ht hi hp hd
def cmR (ss zs : List Int) : List Int := cmpT ss ++ List.replicate (ss.length - (cmpT ss).length) 0 ++ zs
theorem cmR_length (ss zs : List Int) : (cmR ss zs).length = ss.length + zs.length := by
  have := cmpT_le ss
  unfold cmR
  simp only [List.length_append, List.length_replicate]
  omega
set_option maxHeartbeats 1000000 in
theorem loop33_0 {H : Heap} {ss zs : List Int} {o g : Nat} (hr : RowI H o g (ss ++ zs)) (hb : ss.length ≤ 1000000) :
    ∀ (r k : Nat), ss.length - k ≤ r → 1 ≤ k → k ≤ ss.length → cmpT (ss.take k) = ss.take k →
    (∃ ex, C X (.loop lp33_0) [(0, .row o g 0 ss.length false), (3, .int .i64 k)] H = some (.exit 0, (0, .row o g 0 ss.length false) :: ex, H) ∧ cmpT ss = ss) ∨
    C X (.loop lp33_0) [(0, .row o g 0 ss.length false), (3, .int .i64 k)] H = some (.ret, [(2, .row o g 0 (cmpT ss).length false)], H.set o (.row 3 1 g ((cmR ss zs).map intD))) := by
  intro r
  obtain ⟨vl, hv, hln, hvg⟩ := hr.vw2 (c := false) (lo := 0) (n := ss.length) (by rw [List.length_append]; omega)
  induction r with
  | zero =>
    intro k hk h1 h2 hp
    obtain rfl : k = ss.length := by omega
    rw [List.take_length] at hp
    refine .inl ⟨[(3, .int .i64 ss.length), (13, .bool false)], ?_, hp⟩
    generalize ss.length = n at *
    subst hln
    rw [t_loop]
    unfold lp33_0
    (repeat (first | rw [s_assoc] | rw [s_seq_reg (by simp [go_sem, hv]; exact ⟨rfl, rfl⟩)] | rw [s_cnd (by simp [lk, keepEnv, Od.v, hv]; exact rfl)] | rw [cnd_t] | rw [cnd_f] | rw [s_skip] | rw [s_ret] | rw [s_exit] | rw [C_ret] | rw [C_exit] | rw [C_skip] | rw [blk_ret] | rw [blk_norm] | rw [blk_exit] | rw [blk_exit' (by decide)] | rw [blkT_ret] | rw [blkT_norm] | rw [blkT_exit] | rw [blkT_exit' (by decide)] | rw [s_blk] | rw [s_reg (by simp [go_sem, hv]; exact ⟨rfl, rfl⟩)] | rw [t_cnd (by simp [lk, keepEnv, Od.v, hv]; exact rfl)] | rw [t_blk]))
    rw [lp_exit]
    simp [keepEnv, lk]
  | succ r ih =>
    intro k hk h1 h2 hp
    by_cases c : k < ss.length
    · obtain ⟨K, hK⟩ : ∃ K, K = k + 1 := ⟨_, rfl⟩
      have z1 : IntKind.i64.wrap ((k : Int) + 1) = (K : Int) := (by rw [wrap64 _ (by omega) (by omega)]; omega)
      obtain ⟨q, hq⟩ : ∃ q, k = q + 1 := ⟨k - 1, by omega⟩
      have z2 : IntKind.i64.wrap ((k : Int) - 1) = (q : Int) := (by rw [wrap64 _ (by omega) (by omega)]; omega)
      have hj1 : k - 1 < ss.length := by omega
      obtain ⟨x, hx⟩ : ∃ x, x = ss[k] := ⟨_, rfl⟩
      obtain ⟨y, hy⟩ : ∃ y, y = ss[k - 1] := ⟨_, rfl⟩
      have hcx : (ss ++ zs)[0 + k]? = some x := by rw [Nat.zero_add, List.getElem?_append_left c, hx]; exact List.getElem?_eq_getElem c
      have hcy : (ss ++ zs)[0 + q]? = some y := by rw [Nat.zero_add, show q = k - 1 by omega, List.getElem?_append_left hj1, hy]; exact List.getElem?_eq_getElem hj1
      obtain ⟨hx1, hx2⟩ := hvg k x c hcx
      obtain ⟨hy1, hy2⟩ := hvg q y (by omega) hcy
      have hq2 : q < ss.length := by omega
      have hct := cmpT_take ss k (by omega) c
      rw [← hx, ← hy, ← hK, hp] at hct
      by_cases he : x = y
      · rw [if_pos he] at hct
        have he' : (x == y) = true := by simpa using he
        right
        obtain ⟨m, hm⟩ : ∃ m, k + m = ss.length := ⟨ss.length - k, by omega⟩
        have hself := hr.self
        obtain ⟨k', cur', ex, hc, c1, c2, c3, c4, c5, c6⟩ := loop33_1 (H := H) (o := o) (g := g) (zs := zs) hm (by omega) hb m k 1 (ss ++ zs) (by omega) (by omega) (by omega) (by omega) (by rw [hself]; exact hr) (by rw [List.length_append])
          (by rw [← hK, hct, List.take_append_of_le_length h2]) (by rw [← hK, hct, List.length_take]; omega) (fun i a b => List.getElem?_append_left b) (by rw [List.drop_left'] ; rfl)
        rw [hself, show ((1 : Nat) : Int) = 1 from rfl] at hc
        obtain ⟨vl2, hv2, hln2, -⟩ := c2.vw2 (c := false) (lo := 0) (n := ss.length) (by omega)
        have hcl : H.set o (.row 3 1 g ((cur'.map intD).take k' ++ (List.replicate (ss.length - k') (.int .i64 0) ++ (cur'.map intD).drop ss.length))) = H.set o (.row 3 1 g ((cmR ss zs).map intD)) := by
          have : (cur'.map intD).take k' ++ (List.replicate (ss.length - k') (.int .i64 0) ++ (cur'.map intD).drop ss.length) = (cmR ss zs).map intD := by
            rw [← List.map_take, c4, ← List.map_drop, c6]
            unfold cmR
            rw [← c5]
            simp
          rw [this]
        have hfr := c2
        unfold RowI at hfr
        have hz : Wc 1 (.int .i64 0) := by simp [Wc, DV.cells, DV.one]
        have hn0 : ¬ ss.length - k' = 0 := by omega
        have hin : k' + (ss.length - k') ≤ cur'.length := by omega
        have hin2 : ss.length ≤ cur'.length := by omega
        have hile : k' ≤ ss.length := by omega
        have hcml := cmR_length ss zs
        obtain ⟨vl3, hv3, hln3, -⟩ := (hr.set (cmR ss zs)).vw2 (c := false) (lo := 0) (n := ss.length) (by omega)
        have hcl2 : (cur'.map intD).length = ss.length + zs.length := by rw [List.length_map]; exact c3
        have hin3 : ss.length ≤ (cur'.map intD).length := by omega
        obtain ⟨M, hM⟩ : ∃ M, M = ss.length - k := ⟨_, rfl⟩
        have hM' := hM.symm
        obtain rfl : m = M := by omega
        have hkm : k ≤ ss.length := h2
        rw [← c5]
        generalize (cmR ss zs).map intD = dl at *
        generalize cur'.map intD = cl at *
        clear ih c2 c4 c5 c6 hself hr hvg hct hp hx hy hcx hcy hcml
        generalize ss.length = n at *
        subst hln
        rw [t_loop]
        unfold lp33_0
        (repeat (first | rw [s_assoc] | rw [s_seq_reg (by simp [go_sem, c, z1, z2, hv, hx1, hx2, hy1, hy2, hq2, he', hM', hkm, ldx, slcx, intAt, cutx]; exact ⟨rfl, rfl⟩)] | rw [s_cnd (by simp [lk, keepEnv, Od.v, c, z1, z2, hv, hx1, hx2, hy1, hy2, hq2, he', hM', hkm, ldx, slcx, intAt, cutx]; exact rfl)] | rw [cnd_t] | rw [cnd_f] | rw [s_skip] | rw [s_ret] | rw [s_exit] | rw [C_ret] | rw [C_exit] | rw [C_skip] | rw [blk_ret] | rw [blk_norm] | rw [blk_exit] | rw [blk_exit' (by decide)] | rw [blkT_ret] | rw [blkT_norm] | rw [blkT_exit] | rw [blkT_exit' (by decide)] | rw [s_blk] | rw [s_reg (by simp [go_sem, c, z1, z2, hv, hx1, hx2, hy1, hy2, hq2, he', hM', hkm, ldx, slcx, intAt, cutx]; exact ⟨rfl, rfl⟩)] | rw [t_cnd (by simp [lk, keepEnv, Od.v, c, z1, z2, hv, hx1, hx2, hy1, hy2, hq2, he', hM', hkm, ldx, slcx, intAt, cutx]; exact rfl)] | rw [t_blk]))
        (try simp only [keepEnv, List.map_cons, List.map_nil, lk, reduceIte, Nat.reduceEqDiff, Nat.zero_ne_one, Nat.one_ne_zero])
        rw [hc]
        (repeat (first | rw [s_assoc] | rw [s_seq_reg (by simp [go_sem, hv2, hln2, hfr, hz, hn0, hin, hin2, hin3, hile, hcl, hv3, hln3, slcx, intAt, cutx]; exact ⟨rfl, rfl⟩)] | rw [s_cnd (by simp [lk, keepEnv, Od.v, hv2, hln2, hfr, hz, hn0, hin, hin2, hin3, hile, hcl, hv3, hln3, slcx, intAt, cutx]; exact rfl)] | rw [cnd_t] | rw [cnd_f] | rw [s_skip] | rw [s_ret] | rw [s_exit] | rw [C_ret] | rw [C_exit] | rw [C_skip] | rw [blk_ret] | rw [blk_norm] | rw [blk_exit] | rw [blk_exit' (by decide)] | rw [blkT_ret] | rw [blkT_norm] | rw [blkT_exit] | rw [blkT_exit' (by decide)] | rw [s_blk] | rw [s_reg (by simp [go_sem, hv2, hln2, hfr, hz, hn0, hin, hin2, hin3, hile, hcl, hv3, hln3, slcx, intAt, cutx]; exact ⟨rfl, rfl⟩)] | rw [t_cnd (by simp [lk, keepEnv, Od.v, hv2, hln2, hfr, hz, hn0, hin, hin2, hin3, hile, hcl, hv3, hln3, slcx, intAt, cutx]; exact rfl)] | rw [t_blk]))
        rw [lp_ret]
        simp [keepEnv, lk]
      · rw [if_neg he] at hct
        have he' : (x == y) = false := by simpa using he
        have hs : C X lp33_0 [(0, .row o g 0 ss.length false), (3, .int .i64 k)] H = some (.norm, [(0, .row o g 0 ss.length false), (3, .int .i64 K)], H) := by
          clear ih hr hx hy hct hp hvg hcx hcy
          generalize ss.length = n at *
          subst hln
          unfold lp33_0
          (repeat (first | rw [s_assoc] | rw [s_seq_reg (by simp [go_sem, c, z1, z2, hv, hx1, hx2, hy1, hy2, hq2, he', ldx]; exact ⟨rfl, rfl⟩)] | rw [s_cnd (by simp [lk, keepEnv, Od.v, c, z1, z2, hv, hx1, hx2, hy1, hy2, hq2, he', ldx]; exact rfl)] | rw [cnd_t] | rw [cnd_f] | rw [s_skip] | rw [s_ret] | rw [s_exit] | rw [C_ret] | rw [C_exit] | rw [C_skip] | rw [blk_ret] | rw [blk_norm] | rw [blk_exit] | rw [blk_exit' (by decide)] | rw [blkT_ret] | rw [blkT_norm] | rw [blkT_exit] | rw [blkT_exit' (by decide)] | rw [s_blk] | rw [s_reg (by simp [go_sem, c, z1, z2, hv, hx1, hx2, hy1, hy2, hq2, he', ldx]; exact ⟨rfl, rfl⟩)] | rw [t_cnd (by simp [lk, keepEnv, Od.v, c, z1, z2, hv, hx1, hx2, hy1, hy2, hq2, he', ldx]; exact rfl)] | rw [t_blk]))
          simp [keepEnv, lk]
        rw [t_loop, hs, lp_norm]
        refine ih K (by omega) (by omega) (by omega) ?_
        rw [hct, hK, hx, List.take_append_getElem c]
    · exact ih k (by omega) h1 h2 hp
theorem cmpT_small {ss : List Int} (h : ss.length < 2) : cmpT ss = ss := by
  match ss, h with
  | [], _ => rfl
  | [x], _ => rfl
  | x :: y :: l, h => simp only [List.length_cons] at h; omega
theorem run33 {H : Heap} {ss zs : List Int} {o g : Nat} (hr : RowI H o g (ss ++ zs)) (hb : ss.length ≤ 1000000) :
    E X 33 [.row o g 0 ss.length false] H = some (.row o g 0 (cmpT ss).length false, H.set o (.row 3 1 g ((cmR ss zs).map intD))) := by
  have hlt : o < H.length := (List.getElem?_eq_some_iff.1 hr).1
  obtain ⟨vl, hv, hln, -⟩ := hr.vw2 (c := false) (lo := 0) (n := ss.length) (by rw [List.length_append]; omega)
  have hfin := fin_row (h := H) (h' := H.set o (.row 3 1 g ((cmR ss zs).map intD))) (g := g) (lo := 0) (m := (cmpT ss).length) (c := false) hlt (by simp)
  have hsame : cmpT ss = ss → cmR ss zs = ss ++ zs := fun h => by unfold cmR; rw [h]; simp
  by_cases c : ss.length < 2
  · have h1 := cmpT_small c
    have h2 := hsame h1
    rw [h2, hr.self] at hfin ⊢
    rw [h1] at hfin ⊢
    have c' : (ss.length : Int) < 2 := by omega
    clear h1 h2 hsame hr
    generalize ss.length = n at *
    subst hln
    rw [E_go (X := X) _ b33 _ rfl rfl]; unfold b33
    (repeat (first | rw [s_assoc] | rw [s_seq_reg (by simp [go_sem, hv, c, c']; exact ⟨rfl, rfl⟩)] | rw [s_cnd (by simp [lk, keepEnv, Od.v, hv, c, c']; exact rfl)] | rw [cnd_t] | rw [cnd_f] | rw [s_skip] | rw [s_ret] | rw [s_exit] | rw [C_ret] | rw [C_exit] | rw [C_skip] | rw [blk_ret] | rw [blk_norm] | rw [blk_exit] | rw [blk_exit' (by decide)] | rw [blkT_ret] | rw [blkT_norm] | rw [blkT_exit] | rw [blkT_exit' (by decide)] | rw [s_blk] | rw [s_reg (by simp [go_sem, hv, c, c']; exact ⟨rfl, rfl⟩)] | rw [t_cnd (by simp [lk, keepEnv, Od.v, hv, c, c']; exact rfl)] | rw [t_blk]))
    simp [ends_ret, ends_norm, resL, lk, keepEnv, hfin]
  · have c' : ¬ (ss.length : Int) < 2 := by omega
    have hlp := loop33_0 hr hb ss.length 1 (by omega) (by omega) (by omega) (cmpT_small (by rw [List.length_take]; omega))
    rw [show ((1 : Nat) : Int) = 1 from rfl] at hlp
    rcases hlp with ⟨ex, hc, h1⟩ | hc
    · have h2 := hsame h1
      rw [h2, hr.self] at hfin ⊢
      rw [h1] at hfin ⊢
      clear h1 h2 hsame hr
      generalize ss.length = n at *
      subst hln
      rw [E_go (X := X) _ b33 _ rfl rfl]; unfold b33
      (repeat (first | rw [s_assoc] | rw [s_seq_reg (by simp [go_sem, hv, c, c']; exact ⟨rfl, rfl⟩)] | rw [s_cnd (by simp [lk, keepEnv, Od.v, hv, c, c']; exact rfl)] | rw [cnd_t] | rw [cnd_f] | rw [s_skip] | rw [s_ret] | rw [s_exit] | rw [C_ret] | rw [C_exit] | rw [C_skip] | rw [blk_ret] | rw [blk_norm] | rw [blk_exit] | rw [blk_exit' (by decide)] | rw [blkT_ret] | rw [blkT_norm] | rw [blkT_exit] | rw [blkT_exit' (by decide)] | rw [s_blk] | rw [s_reg (by simp [go_sem, hv, c, c']; exact ⟨rfl, rfl⟩)] | rw [t_cnd (by simp [lk, keepEnv, Od.v, hv, c, c']; exact rfl)] | rw [t_blk]))
      (try simp only [keepEnv, List.map_cons, List.map_nil, lk, reduceIte, Nat.reduceEqDiff, Nat.zero_ne_one, Nat.one_ne_zero])
      rw [hc]
      (repeat (first | rw [s_assoc] | rw [s_seq_reg (by simp [go_sem]; exact ⟨rfl, rfl⟩)] | rw [s_cnd (by simp [lk, keepEnv, Od.v]; exact rfl)] | rw [cnd_t] | rw [cnd_f] | rw [s_skip] | rw [s_ret] | rw [s_exit] | rw [C_ret] | rw [C_exit] | rw [C_skip] | rw [blk_ret] | rw [blk_norm] | rw [blk_exit] | rw [blk_exit' (by decide)] | rw [blkT_ret] | rw [blkT_norm] | rw [blkT_exit] | rw [blkT_exit' (by decide)] | rw [s_blk] | rw [s_reg (by simp [go_sem]; exact ⟨rfl, rfl⟩)] | rw [t_cnd (by simp [lk, keepEnv, Od.v]; exact rfl)] | rw [t_blk]))
      simp [ends_ret, ends_norm, resL, lk, keepEnv, hfin]
    · clear hsame hr
      generalize (cmR ss zs).map intD = dl at *
      generalize (cmpT ss).length = k' at *
      generalize ss.length = n at *
      subst hln
      rw [E_go (X := X) _ b33 _ rfl rfl]; unfold b33
      (repeat (first | rw [s_assoc] | rw [s_seq_reg (by simp [go_sem, hv, c, c']; exact ⟨rfl, rfl⟩)] | rw [s_cnd (by simp [lk, keepEnv, Od.v, hv, c, c']; exact rfl)] | rw [cnd_t] | rw [cnd_f] | rw [s_skip] | rw [s_ret] | rw [s_exit] | rw [C_ret] | rw [C_exit] | rw [C_skip] | rw [blk_ret] | rw [blk_norm] | rw [blk_exit] | rw [blk_exit' (by decide)] | rw [blkT_ret] | rw [blkT_norm] | rw [blkT_exit] | rw [blkT_exit' (by decide)] | rw [s_blk] | rw [s_reg (by simp [go_sem, hv, c, c']; exact ⟨rfl, rfl⟩)] | rw [t_cnd (by simp [lk, keepEnv, Od.v, hv, c, c']; exact rfl)] | rw [t_blk]))
      (try simp only [keepEnv, List.map_cons, List.map_nil, lk, reduceIte, Nat.reduceEqDiff, Nat.zero_ne_one, Nat.one_ne_zero])
      rw [hc]
      (repeat (first | rw [s_assoc] | rw [s_seq_reg (by simp [go_sem]; exact ⟨rfl, rfl⟩)] | rw [s_cnd (by simp [lk, keepEnv, Od.v]; exact rfl)] | rw [cnd_t] | rw [cnd_f] | rw [s_skip] | rw [s_ret] | rw [s_exit] | rw [C_ret] | rw [C_exit] | rw [C_skip] | rw [blk_ret] | rw [blk_norm] | rw [blk_exit] | rw [blk_exit' (by decide)] | rw [blkT_ret] | rw [blkT_norm] | rw [blkT_exit] | rw [blkT_exit' (by decide)] | rw [s_blk] | rw [s_reg (by simp [go_sem]; exact ⟨rfl, rfl⟩)] | rw [t_cnd (by simp [lk, keepEnv, Od.v]; exact rfl)] | rw [t_blk]))
      simp [ends_ret, ends_norm, resL, lk, keepEnv, hfin]
end Go.Proofs.YtobpbjmnonbblaaDoor
