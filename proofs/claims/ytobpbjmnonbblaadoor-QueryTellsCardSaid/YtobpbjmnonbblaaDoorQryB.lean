/- Ideal runs: a column's name, a schema. -/
import Derived.Test.YtobpbjmnonbblaaDoorQryA
namespace Go.Proofs.YtobpbjmnonbblaaDoor
attribute [local go_sem] evOps evOp_n evOp_r evOp_d evOp_dr kpo_refl kpo_app cnd_some cnd_pair cnd_cnd_t cnd_cnd_f cnd_same cnd_dvb cnd_and cnd_or gd_bool gd_boolf gd_tup cnd_t cnd_f evTo isCall evx put lk Od.v keepEnv enterEnv ldx_ref rdc binx binI binS unx eqk DV.isU DV.cells hget hget0 hset hset0 stx_ref splice fillp mat eqcs eqs one_bool one_int one_str one_nilp one_ref one_elem one_nils one_list one_row one_nilm one_map one_nilf one_func one_nili one_ifc one_agg one_tup one_undef one_fresh
attribute [local go_sem ↓] evx_pick
set_option linter.unusedVariables false
set_option linter.unusedSimpArgs false
set_option maxRecDepth 10000
theorem beq_b (s s' : ByteArray) : (s == s') = true ↔ s = s' := by
  constructor
  · intro h
    have h' : (s.data == s'.data) = true := h
    cases s; cases s'
    simp at h' ⊢
    exact h'
  · rintro rfl; exact beq_bytes s
theorem beq_emp (s : ByteArray) : (s == (⟨#[]⟩ : ByteArray)) = decide (s.size = 0) := by
  by_cases h : s.size = 0
  · have : s = ⟨#[]⟩ := ByteArray.size_eq_zero_iff.1 h
    rw [this]; rfl
  · have h2 : ¬ (s == (⟨#[]⟩ : ByteArray)) = true := by
      rw [beq_b]
      rintro rfl
      exact h rfl
    rw [Bool.eq_false_iff.2 h2]
    simp [h]
def allL (s : ByteArray) : Bool := s.data.toList.all fun b => isL b.toNat
theorem allL_iff (s : ByteArray) : allL s = true ↔ ∀ j, j < s.size → isLb s j = true := by
  have hl : s.data.toList.length = s.size := by show s.data.toList.length = s.data.size; exact Array.length_toList
  rw [allL, List.all_eq_true]
  constructor
  · intro h j hj
    have hb : s.data.toList[j]? = some (s.data.toList[j]'(by omega)) := List.getElem?_eq_getElem _
    rw [isLb_at hb]
    exact h _ (List.getElem_mem _)
  · intro h b hb
    obtain ⟨j, hj, rfl⟩ := List.mem_iff_getElem.1 hb
    have := h j (by omega)
    rwa [isLb_at (List.getElem?_eq_getElem hj)] at this
theorem run52 {s : ByteArray} (h0 : s.size ≠ 0) (hb : s.size ≤ 1000000) (H : Heap) : ∃ r, E X 52 [.str s, .str lettersB] H = some (.str r, H) ∧ (r == (⟨#[]⟩ : ByteArray)) = allL s := by
  have hA : (H ++ [HO.box 98 setC])[H.length]? = some (.box 98 setC) := by simp
  obtain ⟨m, m1, m2, m3, e71⟩ := run71 hA hb
  obtain ⟨t, ht⟩ : ∃ t, t = s.extract 0 m := ⟨_, rfl⟩
  have htz : t.size = m := by rw [ht, ByteArray.size_extract]; omega
  rw [← ht] at e71
  obtain ⟨p, p1, p2, p3, e70⟩ := run70 (s := t) hA (by omega)
  have hts : ∀ q, q < m → isLb t q = isLb s q := by
    intro q hq
    rw [isLb, isLb, ht, ext_toList, List.drop_zero, List.getD_eq_getElem?_getD, List.getD_eq_getElem?_getD, List.getElem?_take, if_pos hq]
  refine ⟨t.extract p t.size, ?_, ?_⟩
  · have e69 := run69
    have x0 : (s == (⟨#[]⟩ : ByteArray)) = false := by rw [beq_emp]; simpa using h0
    have x1 : (lettersB == (⟨#[]⟩ : ByteArray)) = false := by rw [beq_emp]; rfl
    have x2 : lettersB.size = 37 := rfl
    have hl : setC.length = 256 := by rw [← cells_last]; exact cells_len _
    have ha : setC.all DV.one = true := by rw [← cells_last]; exact cells_all _
    have hz : (zrep 256 (DV.bool false)).length = 256 := by simp [zrep]
    have hdr : (zrep 256 (DV.bool false)).drop 256 = [] := List.drop_of_length_le (by rw [hz]; omega)
    generalize t.extract p t.size = r at *
    rw [E_go (X := X) _ b52 _ rfl rfl]; unfold b52
    generalize lettersB = L at *
    generalize setC = sc at *
    generalize zrep 256 (.bool false) = zc at *
    clear m2 m3 p2 p3 hts ht htz
    (repeat (first | rw [s_assoc] | rw [s_seq_reg (by simp [go_sem, x0, x1, x2, e69, e70, e71, hl, ha, hz, hdr]; exact ⟨rfl, rfl⟩)] | rw [s_cnd (by simp [lk, keepEnv, Od.v, x0, x1, x2, e69, e70, e71, hl, ha, hz, hdr]; exact rfl)] | rw [cnd_t] | rw [cnd_f] | rw [s_skip] | rw [s_ret] | rw [s_exit] | rw [C_ret] | rw [C_exit] | rw [C_skip] | rw [blk_ret] | rw [blk_norm] | rw [blk_exit] | rw [blk_exit' (by decide)] | rw [blkT_ret] | rw [blkT_norm] | rw [blkT_exit] | rw [blkT_exit' (by decide)] | rw [s_blk] | rw [s_reg (by simp [go_sem, x0, x1, x2, e69, e70, e71, hl, ha, hz, hdr]; exact ⟨rfl, rfl⟩)] | rw [t_cnd (by simp [lk, keepEnv, Od.v, x0, x1, x2, e69, e70, e71, hl, ha, hz, hdr]; exact rfl)] | rw [t_blk]))
    simp [ends_ret, ends_norm, resL, go_sem, fin, fz0, fz1, fzT, fzL, nlt, x0]
  · rw [beq_emp, ByteArray.size_extract, Nat.min_self]
    by_cases hm : m = 0
    · have h1 : allL s = true := (allL_iff s).2 fun j hj => m3 j (by omega) hj
      rw [h1]
      have : t.size - p = 0 := by omega
      simp [this]
    · have h1 : isLb s (m - 1) = false := by
        rcases m2 with h | h
        · exact absurd h hm
        · exact h
      have h2 : allL s = false := by
        rw [Bool.eq_false_iff]
        intro h
        rw [(allL_iff s).1 h (m - 1) (by omega)] at h1
        cases h1
      rw [h2]
      have hp : p < m := by
        rcases Nat.lt_or_ge p m with h | h
        · exact h
        · have := p3 (m - 1) (by omega)
          rw [hts (m - 1) (by omega), h1] at this
          cases this
      have : ¬ t.size - p = 0 := by omega
      simp [this]
def nameV (s : ByteArray) : Bool := decide (1 ≤ s.size) && (decide (s.size ≤ 16) && allL s)
theorem run39 (s : ByteArray) (h : Heap) : E X 39 [.str s] h = some (.bool (nameV s), h) := by
  by_cases c1 : 1 ≤ s.size
  · have d1 : (1 : Int) ≤ (s.size : Int) := by omega
    by_cases c2 : s.size ≤ 16
    · have d2 : (s.size : Int) ≤ 16 := by omega
      obtain ⟨r, e52, hr⟩ := run52 (s := s) (by omega) (by omega) h
      have hn : nameV s = allL s := by simp [nameV, c1, c2]
      rw [hn, ← hr]
      have e52 : E X 52 [.str s, .str ⟨#[97, 98, 99, 100, 101, 102, 103, 104, 105, 106, 107, 108, 109, 110, 111, 112, 113, 114, 115, 116, 117, 118, 119, 120, 121, 122, 48, 49, 50, 51, 52, 53, 54, 55, 56, 57, 95]⟩] h = some (.str r, h) := e52
      clear hn hr
      rw [E_go (X := X) _ b39 _ rfl rfl]; unfold b39; (repeat (first | rw [s_assoc] | rw [s_seq_reg (by simp [go_sem, c1, c2, d1, d2, e52]; exact ⟨rfl, rfl⟩)] | rw [s_cnd (by simp [lk, keepEnv, Od.v, c1, c2, d1, d2, e52]; exact rfl)] | rw [cnd_t] | rw [cnd_f] | rw [s_skip] | rw [s_ret] | rw [s_exit] | rw [C_ret] | rw [C_exit] | rw [C_skip] | rw [blk_ret] | rw [blk_norm] | rw [blk_exit] | rw [blk_exit' (by decide)] | rw [blkT_ret] | rw [blkT_norm] | rw [blkT_exit] | rw [blkT_exit' (by decide)] | rw [s_blk] | rw [s_reg (by simp [go_sem, c1, c2, d1, d2, e52]; exact ⟨rfl, rfl⟩)] | rw [t_cnd (by simp [lk, keepEnv, Od.v, c1, c2, d1, d2, e52]; exact rfl)] | rw [t_blk])); simp [ends_ret, ends_norm, resL, go_sem, fin, fz0, fz1, fzT, fzL, nlt, c1, c2, d1, d2, e52]
    · have d2 : ¬ (s.size : Int) ≤ 16 := by omega
      have hn : nameV s = false := by simp [nameV, c2]
      rw [hn]
      rw [E_go (X := X) _ b39 _ rfl rfl]; unfold b39; (repeat (first | rw [s_assoc] | rw [s_seq_reg (by simp [go_sem, c1, c2, d1, d2]; exact ⟨rfl, rfl⟩)] | rw [s_cnd (by simp [lk, keepEnv, Od.v, c1, c2, d1, d2]; exact rfl)] | rw [cnd_t] | rw [cnd_f] | rw [s_skip] | rw [s_ret] | rw [s_exit] | rw [C_ret] | rw [C_exit] | rw [C_skip] | rw [blk_ret] | rw [blk_norm] | rw [blk_exit] | rw [blk_exit' (by decide)] | rw [blkT_ret] | rw [blkT_norm] | rw [blkT_exit] | rw [blkT_exit' (by decide)] | rw [s_blk] | rw [s_reg (by simp [go_sem, c1, c2, d1, d2]; exact ⟨rfl, rfl⟩)] | rw [t_cnd (by simp [lk, keepEnv, Od.v, c1, c2, d1, d2]; exact rfl)] | rw [t_blk])); simp [ends_ret, ends_norm, resL, go_sem, fin, fz0, fz1, fzT, fzL, nlt, c1, c2, d1, d2]
  · have d1 : ¬ (1 : Int) ≤ (s.size : Int) := by omega
    have hn : nameV s = false := by simp [nameV, c1]
    rw [hn]
    rw [E_go (X := X) _ b39 _ rfl rfl]; unfold b39; (repeat (first | rw [s_assoc] | rw [s_seq_reg (by simp [go_sem, c1, d1]; exact ⟨rfl, rfl⟩)] | rw [s_cnd (by simp [lk, keepEnv, Od.v, c1, d1]; exact rfl)] | rw [cnd_t] | rw [cnd_f] | rw [s_skip] | rw [s_ret] | rw [s_exit] | rw [C_ret] | rw [C_exit] | rw [C_skip] | rw [blk_ret] | rw [blk_norm] | rw [blk_exit] | rw [blk_exit' (by decide)] | rw [blkT_ret] | rw [blkT_norm] | rw [blkT_exit] | rw [blkT_exit' (by decide)] | rw [s_blk] | rw [s_reg (by simp [go_sem, c1, d1]; exact ⟨rfl, rfl⟩)] | rw [t_cnd (by simp [lk, keepEnv, Od.v, c1, d1]; exact rfl)] | rw [t_blk])); simp [ends_ret, ends_norm, resL, go_sem, fin, fz0, fz1, fzT, fzL, nlt, c1, d1]
structure Cl where
  nm : ByteArray
  kd : Int
  nl : Bool
abbrev Cl.d (c : Cl) : DV := .agg [.str c.nm, .int .i64 c.kd, .bool c.nl]
structure Sch where
  cols : List Cl
  key : Int
  cmp : Int
  del : Int
  sort : Int
abbrev schC (C : DV) (s : Sch) : List DV := [C, .int .i64 s.key, .int .i64 s.cmp, .int .i64 s.del, .int .i64 s.sort]
abbrev schD (C : DV) (s : Sch) : DV := .agg (schC C s)
abbrev byD (x : Int × Bool) : DV := .agg [.int .i64 x.1, .bool x.2]
abbrev intD (x : Int) : DV := .int .i64 x
/-- The first place at which something holds; -1: none. -/
def fidx {α : Type} (P : α → Bool) : List α → Nat → Int
  | [], _ => -1
  | x :: l, i => if P x then i else fidx P l (i + 1)
theorem loop53 {h : Heap} {L : DV} {xs : List Cl} {f : Nat} {cap : List DV} {P : Cl → Bool} (hL : vw h 3 L = some (xs.map Cl.d)) (hF : ∀ x, x ∈ xs → E X f (Cl.d x :: cap) h = some (.bool (P x), h)) (hb : xs.length ≤ 1000000) :
    ∀ (k i : Nat), xs.length - i ≤ k → i ≤ xs.length → (∃ ex, C X (.loop lp53_0) [(0, L), (1, .func f [] cap), (7, .int .i64 xs.length), (8, .int .i64 i)] h = some (.exit 0, (0, L) :: ex, h) ∧ fidx P (xs.drop i) i = -1) ∨ C X (.loop lp53_0) [(0, L), (1, .func f [] cap), (7, .int .i64 xs.length), (8, .int .i64 i)] h = some (.ret, [(4, .int .i64 (fidx P (xs.drop i) i))], h) := by
  intro k
  induction k with
  | zero =>
    intro i hk hi
    obtain rfl : i = xs.length := by omega
    refine .inl ⟨[(1, .func f [] cap), (7, .int .i64 xs.length), (8, .int .i64 xs.length), (9, .bool false)], ?_, by simp [fidx]⟩
    rw [t_loop]
    unfold lp53_0
    (repeat (first | rw [s_assoc] | rw [s_seq_reg (by simp [go_sem, hL]; exact ⟨rfl, rfl⟩)] | rw [s_cnd (by simp [lk, keepEnv, Od.v, hL]; exact rfl)] | rw [cnd_t] | rw [cnd_f] | rw [s_skip] | rw [s_ret] | rw [s_exit] | rw [C_ret] | rw [C_exit] | rw [C_skip] | rw [blk_ret] | rw [blk_norm] | rw [blk_exit] | rw [blk_exit' (by decide)] | rw [blkT_ret] | rw [blkT_norm] | rw [blkT_exit] | rw [blkT_exit' (by decide)] | rw [s_blk] | rw [s_reg (by simp [go_sem, hL]; exact ⟨rfl, rfl⟩)] | rw [t_cnd (by simp [lk, keepEnv, Od.v, hL]; exact rfl)] | rw [t_blk]))
    rw [lp_exit]
    simp [keepEnv, lk]
  | succ k ih =>
    intro i hk hi
    by_cases c : i < xs.length
    · obtain ⟨I, hI⟩ : ∃ I, I = i + 1 := ⟨_, rfl⟩
      have z1 : IntKind.i64.wrap ((i : Int) + 1) = (I : Int) := (by rw [wrap64 _ (by omega) (by omega)]; omega)
      obtain ⟨x, hx⟩ : ∃ x, x = xs[i] := ⟨_, rfl⟩
      have hxi : xs[i]? = some x := by rw [hx]; exact List.getElem?_eq_getElem c
      have hx' := hx.symm
      have hd : xs.drop i = x :: xs.drop I := by rw [List.drop_eq_getElem_cons c, hx', hI]
      have e := hF x (by rw [hx]; exact List.getElem_mem c)
      have hIH := ih I (by omega) (by omega)
      rw [hd, fidx]
      cases hp : P x
      · rw [hp] at e
        have hs : C X lp53_0 [(0, L), (1, .func f [] cap), (7, .int .i64 xs.length), (8, .int .i64 i)] h = some (.norm, [(0, L), (1, .func f [] cap), (7, .int .i64 xs.length), (8, .int .i64 I)], h) := by
          clear ih hIH hx hd hF hI
          obtain ⟨xn, xk, xl⟩ := x
          (try simp only [Cl.d] at *)
          unfold lp53_0
          (repeat (first | rw [s_assoc] | rw [s_seq_reg (by simp [go_sem, c, z1, hL, hx', hxi, e, ldx]; exact ⟨rfl, rfl⟩)] | rw [s_cnd (by simp [lk, keepEnv, Od.v, c, z1, hL, hx', hxi, e, ldx]; exact rfl)] | rw [cnd_t] | rw [cnd_f] | rw [s_skip] | rw [s_ret] | rw [s_exit] | rw [C_ret] | rw [C_exit] | rw [C_skip] | rw [blk_ret] | rw [blk_norm] | rw [blk_exit] | rw [blk_exit' (by decide)] | rw [blkT_ret] | rw [blkT_norm] | rw [blkT_exit] | rw [blkT_exit' (by decide)] | rw [s_blk] | rw [s_reg (by simp [go_sem, c, z1, hL, hx', hxi, e, ldx]; exact ⟨rfl, rfl⟩)] | rw [t_cnd (by simp [lk, keepEnv, Od.v, c, z1, hL, hx', hxi, e, ldx]; exact rfl)] | rw [t_blk]))
          simp [keepEnv, lk]
        rw [t_loop, hs, lp_norm]
        simp only [Bool.false_eq_true, if_false]
        rw [← hI]
        exact hIH
      · rw [hp] at e
        right
        have hs : C X lp53_0 [(0, L), (1, .func f [] cap), (7, .int .i64 xs.length), (8, .int .i64 i)] h = some (.ret, [(4, .int .i64 i)], h) := by
          clear ih hIH hx hd hF hI
          obtain ⟨xn, xk, xl⟩ := x
          (try simp only [Cl.d] at *)
          unfold lp53_0
          (repeat (first | rw [s_assoc] | rw [s_seq_reg (by simp [go_sem, c, z1, hL, hx', hxi, e, ldx]; exact ⟨rfl, rfl⟩)] | rw [s_cnd (by simp [lk, keepEnv, Od.v, c, z1, hL, hx', hxi, e, ldx]; exact rfl)] | rw [cnd_t] | rw [cnd_f] | rw [s_skip] | rw [s_ret] | rw [s_exit] | rw [C_ret] | rw [C_exit] | rw [C_skip] | rw [blk_ret] | rw [blk_norm] | rw [blk_exit] | rw [blk_exit' (by decide)] | rw [blkT_ret] | rw [blkT_norm] | rw [blkT_exit] | rw [blkT_exit' (by decide)] | rw [s_blk] | rw [s_reg (by simp [go_sem, c, z1, hL, hx', hxi, e, ldx]; exact ⟨rfl, rfl⟩)] | rw [t_cnd (by simp [lk, keepEnv, Od.v, c, z1, hL, hx', hxi, e, ldx]; exact rfl)] | rw [t_blk]))
          simp [keepEnv, lk]
        rw [t_loop, hs, lp_ret]
        simp
    · exact ih i (by omega) hi
theorem run53 {h : Heap} {L : DV} {xs : List Cl} {f : Nat} {cap : List DV} {P : Cl → Bool} (hL : vw h 3 L = some (xs.map Cl.d)) (hF : ∀ x, x ∈ xs → E X f (Cl.d x :: cap) h = some (.bool (P x), h)) (hb : xs.length ≤ 1000000) :
    E X 53 [L, .func f [] cap] h = some (.int .i64 (fidx P xs 0), h) := by
  rcases loop53 hL hF hb xs.length 0 (by omega) (by omega) with ⟨ex, hc, hf⟩ | hc
  · rw [List.drop_zero] at hf
    rw [hf]
    rw [show ((0 : Nat) : Int) = 0 from rfl] at hc
    rw [E_go (X := X) _ b53 _ rfl rfl]; unfold b53
    (repeat (first | rw [s_assoc] | rw [s_seq_reg (by simp [go_sem, hL]; exact ⟨rfl, rfl⟩)] | rw [s_cnd (by simp [lk, keepEnv, Od.v, hL]; exact rfl)] | rw [cnd_t] | rw [cnd_f] | rw [s_skip] | rw [s_ret] | rw [s_exit] | rw [C_ret] | rw [C_exit] | rw [C_skip] | rw [blk_ret] | rw [blk_norm] | rw [blk_exit] | rw [blk_exit' (by decide)] | rw [blkT_ret] | rw [blkT_norm] | rw [blkT_exit] | rw [blkT_exit' (by decide)] | rw [s_blk] | rw [s_reg (by simp [go_sem, hL]; exact ⟨rfl, rfl⟩)] | rw [t_cnd (by simp [lk, keepEnv, Od.v, hL]; exact rfl)] | rw [t_blk]))
    (try simp only [keepEnv, List.map_cons, List.map_nil, lk, reduceIte, Nat.reduceEqDiff, Nat.zero_ne_one, Nat.one_ne_zero])
    rw [hc]
    (repeat (first | rw [s_assoc] | rw [s_seq_reg (by simp [go_sem]; exact ⟨rfl, rfl⟩)] | rw [s_cnd (by simp [lk, keepEnv, Od.v]; exact rfl)] | rw [cnd_t] | rw [cnd_f] | rw [s_skip] | rw [s_ret] | rw [s_exit] | rw [C_ret] | rw [C_exit] | rw [C_skip] | rw [blk_ret] | rw [blk_norm] | rw [blk_exit] | rw [blk_exit' (by decide)] | rw [blkT_ret] | rw [blkT_norm] | rw [blkT_exit] | rw [blkT_exit' (by decide)] | rw [s_blk] | rw [s_reg (by simp [go_sem]; exact ⟨rfl, rfl⟩)] | rw [t_cnd (by simp [lk, keepEnv, Od.v]; exact rfl)] | rw [t_blk]))
    simp [ends_ret, ends_norm, resL, go_sem, fin, fz0, fz1, fzT, fzL, nlt]
  · rw [List.drop_zero, show ((0 : Nat) : Int) = 0 from rfl] at hc
    rw [E_go (X := X) _ b53 _ rfl rfl]; unfold b53
    generalize fidx P xs 0 = r at *
    (repeat (first | rw [s_assoc] | rw [s_seq_reg (by simp [go_sem, hL]; exact ⟨rfl, rfl⟩)] | rw [s_cnd (by simp [lk, keepEnv, Od.v, hL]; exact rfl)] | rw [cnd_t] | rw [cnd_f] | rw [s_skip] | rw [s_ret] | rw [s_exit] | rw [C_ret] | rw [C_exit] | rw [C_skip] | rw [blk_ret] | rw [blk_norm] | rw [blk_exit] | rw [blk_exit' (by decide)] | rw [blkT_ret] | rw [blkT_norm] | rw [blkT_exit] | rw [blkT_exit' (by decide)] | rw [s_blk] | rw [s_reg (by simp [go_sem, hL]; exact ⟨rfl, rfl⟩)] | rw [t_cnd (by simp [lk, keepEnv, Od.v, hL]; exact rfl)] | rw [t_blk]))
    (try simp only [keepEnv, List.map_cons, List.map_nil, lk, reduceIte, Nat.reduceEqDiff, Nat.zero_ne_one, Nat.one_ne_zero])
    rw [hc]
    (repeat (first | rw [s_assoc] | rw [s_seq_reg (by simp [go_sem]; exact ⟨rfl, rfl⟩)] | rw [s_cnd (by simp [lk, keepEnv, Od.v]; exact rfl)] | rw [cnd_t] | rw [cnd_f] | rw [s_skip] | rw [s_ret] | rw [s_exit] | rw [C_ret] | rw [C_exit] | rw [C_skip] | rw [blk_ret] | rw [blk_norm] | rw [blk_exit] | rw [blk_exit' (by decide)] | rw [blkT_ret] | rw [blkT_norm] | rw [blkT_exit] | rw [blkT_exit' (by decide)] | rw [s_blk] | rw [s_reg (by simp [go_sem]; exact ⟨rfl, rfl⟩)] | rw [t_cnd (by simp [lk, keepEnv, Od.v]; exact rfl)] | rw [t_blk]))
    simp [ends_ret, ends_norm, resL, go_sem, fin, fz0, fz1, fzT, fzL, nlt]
theorem loop44 {h : Heap} {L : DV} {xs : List Int} {f : Nat} {cap : List DV} {P : Int → Bool} (hL : vw h 1 L = some (xs.map intD)) (hF : ∀ x, x ∈ xs → E X f (intD x :: cap) h = some (.bool (P x), h)) (hb : xs.length ≤ 1000000) :
    ∀ (k i : Nat), xs.length - i ≤ k → i ≤ xs.length → (∃ ex, C X (.loop lp44_0) [(0, L), (1, .func f [] cap), (7, .int .i64 xs.length), (8, .int .i64 i)] h = some (.exit 0, (0, L) :: ex, h) ∧ fidx P (xs.drop i) i = -1) ∨ C X (.loop lp44_0) [(0, L), (1, .func f [] cap), (7, .int .i64 xs.length), (8, .int .i64 i)] h = some (.ret, [(4, .int .i64 (fidx P (xs.drop i) i))], h) := by
  intro k
  induction k with
  | zero =>
    intro i hk hi
    obtain rfl : i = xs.length := by omega
    refine .inl ⟨[(1, .func f [] cap), (7, .int .i64 xs.length), (8, .int .i64 xs.length), (9, .bool false)], ?_, by simp [fidx]⟩
    rw [t_loop]
    unfold lp44_0
    (repeat (first | rw [s_assoc] | rw [s_seq_reg (by simp [go_sem, hL]; exact ⟨rfl, rfl⟩)] | rw [s_cnd (by simp [lk, keepEnv, Od.v, hL]; exact rfl)] | rw [cnd_t] | rw [cnd_f] | rw [s_skip] | rw [s_ret] | rw [s_exit] | rw [C_ret] | rw [C_exit] | rw [C_skip] | rw [blk_ret] | rw [blk_norm] | rw [blk_exit] | rw [blk_exit' (by decide)] | rw [blkT_ret] | rw [blkT_norm] | rw [blkT_exit] | rw [blkT_exit' (by decide)] | rw [s_blk] | rw [s_reg (by simp [go_sem, hL]; exact ⟨rfl, rfl⟩)] | rw [t_cnd (by simp [lk, keepEnv, Od.v, hL]; exact rfl)] | rw [t_blk]))
    rw [lp_exit]
    simp [keepEnv, lk]
  | succ k ih =>
    intro i hk hi
    by_cases c : i < xs.length
    · obtain ⟨I, hI⟩ : ∃ I, I = i + 1 := ⟨_, rfl⟩
      have z1 : IntKind.i64.wrap ((i : Int) + 1) = (I : Int) := (by rw [wrap64 _ (by omega) (by omega)]; omega)
      obtain ⟨x, hx⟩ : ∃ x, x = xs[i] := ⟨_, rfl⟩
      have hxi : xs[i]? = some x := by rw [hx]; exact List.getElem?_eq_getElem c
      have hx' := hx.symm
      have hd : xs.drop i = x :: xs.drop I := by rw [List.drop_eq_getElem_cons c, hx', hI]
      have e := hF x (by rw [hx]; exact List.getElem_mem c)
      have hIH := ih I (by omega) (by omega)
      rw [hd, fidx]
      cases hp : P x
      · rw [hp] at e
        have hs : C X lp44_0 [(0, L), (1, .func f [] cap), (7, .int .i64 xs.length), (8, .int .i64 i)] h = some (.norm, [(0, L), (1, .func f [] cap), (7, .int .i64 xs.length), (8, .int .i64 I)], h) := by
          clear ih hIH hx hd hF hI
          (try simp only [intD] at *)
          unfold lp44_0
          (repeat (first | rw [s_assoc] | rw [s_seq_reg (by simp [go_sem, c, z1, hL, hx', hxi, e, ldx]; exact ⟨rfl, rfl⟩)] | rw [s_cnd (by simp [lk, keepEnv, Od.v, c, z1, hL, hx', hxi, e, ldx]; exact rfl)] | rw [cnd_t] | rw [cnd_f] | rw [s_skip] | rw [s_ret] | rw [s_exit] | rw [C_ret] | rw [C_exit] | rw [C_skip] | rw [blk_ret] | rw [blk_norm] | rw [blk_exit] | rw [blk_exit' (by decide)] | rw [blkT_ret] | rw [blkT_norm] | rw [blkT_exit] | rw [blkT_exit' (by decide)] | rw [s_blk] | rw [s_reg (by simp [go_sem, c, z1, hL, hx', hxi, e, ldx]; exact ⟨rfl, rfl⟩)] | rw [t_cnd (by simp [lk, keepEnv, Od.v, c, z1, hL, hx', hxi, e, ldx]; exact rfl)] | rw [t_blk]))
          simp [keepEnv, lk]
        rw [t_loop, hs, lp_norm]
        simp only [Bool.false_eq_true, if_false]
        rw [← hI]
        exact hIH
      · rw [hp] at e
        right
        have hs : C X lp44_0 [(0, L), (1, .func f [] cap), (7, .int .i64 xs.length), (8, .int .i64 i)] h = some (.ret, [(4, .int .i64 i)], h) := by
          clear ih hIH hx hd hF hI
          (try simp only [intD] at *)
          unfold lp44_0
          (repeat (first | rw [s_assoc] | rw [s_seq_reg (by simp [go_sem, c, z1, hL, hx', hxi, e, ldx]; exact ⟨rfl, rfl⟩)] | rw [s_cnd (by simp [lk, keepEnv, Od.v, c, z1, hL, hx', hxi, e, ldx]; exact rfl)] | rw [cnd_t] | rw [cnd_f] | rw [s_skip] | rw [s_ret] | rw [s_exit] | rw [C_ret] | rw [C_exit] | rw [C_skip] | rw [blk_ret] | rw [blk_norm] | rw [blk_exit] | rw [blk_exit' (by decide)] | rw [blkT_ret] | rw [blkT_norm] | rw [blkT_exit] | rw [blkT_exit' (by decide)] | rw [s_blk] | rw [s_reg (by simp [go_sem, c, z1, hL, hx', hxi, e, ldx]; exact ⟨rfl, rfl⟩)] | rw [t_cnd (by simp [lk, keepEnv, Od.v, c, z1, hL, hx', hxi, e, ldx]; exact rfl)] | rw [t_blk]))
          simp [keepEnv, lk]
        rw [t_loop, hs, lp_ret]
        simp
    · exact ih i (by omega) hi
theorem run44 {h : Heap} {L : DV} {xs : List Int} {f : Nat} {cap : List DV} {P : Int → Bool} (hL : vw h 1 L = some (xs.map intD)) (hF : ∀ x, x ∈ xs → E X f (intD x :: cap) h = some (.bool (P x), h)) (hb : xs.length ≤ 1000000) :
    E X 44 [L, .func f [] cap] h = some (.int .i64 (fidx P xs 0), h) := by
  rcases loop44 hL hF hb xs.length 0 (by omega) (by omega) with ⟨ex, hc, hf⟩ | hc
  · rw [List.drop_zero] at hf
    rw [hf]
    rw [show ((0 : Nat) : Int) = 0 from rfl] at hc
    rw [E_go (X := X) _ b44 _ rfl rfl]; unfold b44
    (repeat (first | rw [s_assoc] | rw [s_seq_reg (by simp [go_sem, hL]; exact ⟨rfl, rfl⟩)] | rw [s_cnd (by simp [lk, keepEnv, Od.v, hL]; exact rfl)] | rw [cnd_t] | rw [cnd_f] | rw [s_skip] | rw [s_ret] | rw [s_exit] | rw [C_ret] | rw [C_exit] | rw [C_skip] | rw [blk_ret] | rw [blk_norm] | rw [blk_exit] | rw [blk_exit' (by decide)] | rw [blkT_ret] | rw [blkT_norm] | rw [blkT_exit] | rw [blkT_exit' (by decide)] | rw [s_blk] | rw [s_reg (by simp [go_sem, hL]; exact ⟨rfl, rfl⟩)] | rw [t_cnd (by simp [lk, keepEnv, Od.v, hL]; exact rfl)] | rw [t_blk]))
    (try simp only [keepEnv, List.map_cons, List.map_nil, lk, reduceIte, Nat.reduceEqDiff, Nat.zero_ne_one, Nat.one_ne_zero])
    rw [hc]
    (repeat (first | rw [s_assoc] | rw [s_seq_reg (by simp [go_sem]; exact ⟨rfl, rfl⟩)] | rw [s_cnd (by simp [lk, keepEnv, Od.v]; exact rfl)] | rw [cnd_t] | rw [cnd_f] | rw [s_skip] | rw [s_ret] | rw [s_exit] | rw [C_ret] | rw [C_exit] | rw [C_skip] | rw [blk_ret] | rw [blk_norm] | rw [blk_exit] | rw [blk_exit' (by decide)] | rw [blkT_ret] | rw [blkT_norm] | rw [blkT_exit] | rw [blkT_exit' (by decide)] | rw [s_blk] | rw [s_reg (by simp [go_sem]; exact ⟨rfl, rfl⟩)] | rw [t_cnd (by simp [lk, keepEnv, Od.v]; exact rfl)] | rw [t_blk]))
    simp [ends_ret, ends_norm, resL, go_sem, fin, fz0, fz1, fzT, fzL, nlt]
  · rw [List.drop_zero, show ((0 : Nat) : Int) = 0 from rfl] at hc
    rw [E_go (X := X) _ b44 _ rfl rfl]; unfold b44
    generalize fidx P xs 0 = r at *
    (repeat (first | rw [s_assoc] | rw [s_seq_reg (by simp [go_sem, hL]; exact ⟨rfl, rfl⟩)] | rw [s_cnd (by simp [lk, keepEnv, Od.v, hL]; exact rfl)] | rw [cnd_t] | rw [cnd_f] | rw [s_skip] | rw [s_ret] | rw [s_exit] | rw [C_ret] | rw [C_exit] | rw [C_skip] | rw [blk_ret] | rw [blk_norm] | rw [blk_exit] | rw [blk_exit' (by decide)] | rw [blkT_ret] | rw [blkT_norm] | rw [blkT_exit] | rw [blkT_exit' (by decide)] | rw [s_blk] | rw [s_reg (by simp [go_sem, hL]; exact ⟨rfl, rfl⟩)] | rw [t_cnd (by simp [lk, keepEnv, Od.v, hL]; exact rfl)] | rw [t_blk]))
    (try simp only [keepEnv, List.map_cons, List.map_nil, lk, reduceIte, Nat.reduceEqDiff, Nat.zero_ne_one, Nat.one_ne_zero])
    rw [hc]
    (repeat (first | rw [s_assoc] | rw [s_seq_reg (by simp [go_sem]; exact ⟨rfl, rfl⟩)] | rw [s_cnd (by simp [lk, keepEnv, Od.v]; exact rfl)] | rw [cnd_t] | rw [cnd_f] | rw [s_skip] | rw [s_ret] | rw [s_exit] | rw [C_ret] | rw [C_exit] | rw [C_skip] | rw [blk_ret] | rw [blk_norm] | rw [blk_exit] | rw [blk_exit' (by decide)] | rw [blkT_ret] | rw [blkT_norm] | rw [blkT_exit] | rw [blkT_exit' (by decide)] | rw [s_blk] | rw [s_reg (by simp [go_sem]; exact ⟨rfl, rfl⟩)] | rw [t_cnd (by simp [lk, keepEnv, Od.v]; exact rfl)] | rw [t_blk]))
    simp [ends_ret, ends_norm, resL, go_sem, fin, fz0, fz1, fzT, fzL, nlt]
theorem loop46 {h : Heap} {L : DV} {xs : List (Int × Bool)} {f : Nat} {cap : List DV} {P : (Int × Bool) → Bool} (hL : vw h 2 L = some (xs.map byD)) (hF : ∀ x, x ∈ xs → E X f (byD x :: cap) h = some (.bool (P x), h)) (hb : xs.length ≤ 1000000) :
    ∀ (k i : Nat), xs.length - i ≤ k → i ≤ xs.length → (∃ ex, C X (.loop lp46_0) [(0, L), (1, .func f [] cap), (7, .int .i64 xs.length), (8, .int .i64 i)] h = some (.exit 0, (0, L) :: ex, h) ∧ fidx P (xs.drop i) i = -1) ∨ C X (.loop lp46_0) [(0, L), (1, .func f [] cap), (7, .int .i64 xs.length), (8, .int .i64 i)] h = some (.ret, [(4, .int .i64 (fidx P (xs.drop i) i))], h) := by
  intro k
  induction k with
  | zero =>
    intro i hk hi
    obtain rfl : i = xs.length := by omega
    refine .inl ⟨[(1, .func f [] cap), (7, .int .i64 xs.length), (8, .int .i64 xs.length), (9, .bool false)], ?_, by simp [fidx]⟩
    rw [t_loop]
    unfold lp46_0
    (repeat (first | rw [s_assoc] | rw [s_seq_reg (by simp [go_sem, hL]; exact ⟨rfl, rfl⟩)] | rw [s_cnd (by simp [lk, keepEnv, Od.v, hL]; exact rfl)] | rw [cnd_t] | rw [cnd_f] | rw [s_skip] | rw [s_ret] | rw [s_exit] | rw [C_ret] | rw [C_exit] | rw [C_skip] | rw [blk_ret] | rw [blk_norm] | rw [blk_exit] | rw [blk_exit' (by decide)] | rw [blkT_ret] | rw [blkT_norm] | rw [blkT_exit] | rw [blkT_exit' (by decide)] | rw [s_blk] | rw [s_reg (by simp [go_sem, hL]; exact ⟨rfl, rfl⟩)] | rw [t_cnd (by simp [lk, keepEnv, Od.v, hL]; exact rfl)] | rw [t_blk]))
    rw [lp_exit]
    simp [keepEnv, lk]
  | succ k ih =>
    intro i hk hi
    by_cases c : i < xs.length
    · obtain ⟨I, hI⟩ : ∃ I, I = i + 1 := ⟨_, rfl⟩
      have z1 : IntKind.i64.wrap ((i : Int) + 1) = (I : Int) := (by rw [wrap64 _ (by omega) (by omega)]; omega)
      obtain ⟨x, hx⟩ : ∃ x, x = xs[i] := ⟨_, rfl⟩
      have hxi : xs[i]? = some x := by rw [hx]; exact List.getElem?_eq_getElem c
      have hx' := hx.symm
      have hd : xs.drop i = x :: xs.drop I := by rw [List.drop_eq_getElem_cons c, hx', hI]
      have e := hF x (by rw [hx]; exact List.getElem_mem c)
      have hIH := ih I (by omega) (by omega)
      rw [hd, fidx]
      cases hp : P x
      · rw [hp] at e
        have hs : C X lp46_0 [(0, L), (1, .func f [] cap), (7, .int .i64 xs.length), (8, .int .i64 i)] h = some (.norm, [(0, L), (1, .func f [] cap), (7, .int .i64 xs.length), (8, .int .i64 I)], h) := by
          clear ih hIH hx hd hF hI
          obtain ⟨x1, x2⟩ := x
          (try simp only [byD] at *)
          unfold lp46_0
          (repeat (first | rw [s_assoc] | rw [s_seq_reg (by simp [go_sem, c, z1, hL, hx', hxi, e, ldx]; exact ⟨rfl, rfl⟩)] | rw [s_cnd (by simp [lk, keepEnv, Od.v, c, z1, hL, hx', hxi, e, ldx]; exact rfl)] | rw [cnd_t] | rw [cnd_f] | rw [s_skip] | rw [s_ret] | rw [s_exit] | rw [C_ret] | rw [C_exit] | rw [C_skip] | rw [blk_ret] | rw [blk_norm] | rw [blk_exit] | rw [blk_exit' (by decide)] | rw [blkT_ret] | rw [blkT_norm] | rw [blkT_exit] | rw [blkT_exit' (by decide)] | rw [s_blk] | rw [s_reg (by simp [go_sem, c, z1, hL, hx', hxi, e, ldx]; exact ⟨rfl, rfl⟩)] | rw [t_cnd (by simp [lk, keepEnv, Od.v, c, z1, hL, hx', hxi, e, ldx]; exact rfl)] | rw [t_blk]))
          simp [keepEnv, lk]
        rw [t_loop, hs, lp_norm]
        simp only [Bool.false_eq_true, if_false]
        rw [← hI]
        exact hIH
      · rw [hp] at e
        right
        have hs : C X lp46_0 [(0, L), (1, .func f [] cap), (7, .int .i64 xs.length), (8, .int .i64 i)] h = some (.ret, [(4, .int .i64 i)], h) := by
          clear ih hIH hx hd hF hI
          obtain ⟨x1, x2⟩ := x
          (try simp only [byD] at *)
          unfold lp46_0
          (repeat (first | rw [s_assoc] | rw [s_seq_reg (by simp [go_sem, c, z1, hL, hx', hxi, e, ldx]; exact ⟨rfl, rfl⟩)] | rw [s_cnd (by simp [lk, keepEnv, Od.v, c, z1, hL, hx', hxi, e, ldx]; exact rfl)] | rw [cnd_t] | rw [cnd_f] | rw [s_skip] | rw [s_ret] | rw [s_exit] | rw [C_ret] | rw [C_exit] | rw [C_skip] | rw [blk_ret] | rw [blk_norm] | rw [blk_exit] | rw [blk_exit' (by decide)] | rw [blkT_ret] | rw [blkT_norm] | rw [blkT_exit] | rw [blkT_exit' (by decide)] | rw [s_blk] | rw [s_reg (by simp [go_sem, c, z1, hL, hx', hxi, e, ldx]; exact ⟨rfl, rfl⟩)] | rw [t_cnd (by simp [lk, keepEnv, Od.v, c, z1, hL, hx', hxi, e, ldx]; exact rfl)] | rw [t_blk]))
          simp [keepEnv, lk]
        rw [t_loop, hs, lp_ret]
        simp
    · exact ih i (by omega) hi
theorem run46 {h : Heap} {L : DV} {xs : List (Int × Bool)} {f : Nat} {cap : List DV} {P : (Int × Bool) → Bool} (hL : vw h 2 L = some (xs.map byD)) (hF : ∀ x, x ∈ xs → E X f (byD x :: cap) h = some (.bool (P x), h)) (hb : xs.length ≤ 1000000) :
    E X 46 [L, .func f [] cap] h = some (.int .i64 (fidx P xs 0), h) := by
  rcases loop46 hL hF hb xs.length 0 (by omega) (by omega) with ⟨ex, hc, hf⟩ | hc
  · rw [List.drop_zero] at hf
    rw [hf]
    rw [show ((0 : Nat) : Int) = 0 from rfl] at hc
    rw [E_go (X := X) _ b46 _ rfl rfl]; unfold b46
    (repeat (first | rw [s_assoc] | rw [s_seq_reg (by simp [go_sem, hL]; exact ⟨rfl, rfl⟩)] | rw [s_cnd (by simp [lk, keepEnv, Od.v, hL]; exact rfl)] | rw [cnd_t] | rw [cnd_f] | rw [s_skip] | rw [s_ret] | rw [s_exit] | rw [C_ret] | rw [C_exit] | rw [C_skip] | rw [blk_ret] | rw [blk_norm] | rw [blk_exit] | rw [blk_exit' (by decide)] | rw [blkT_ret] | rw [blkT_norm] | rw [blkT_exit] | rw [blkT_exit' (by decide)] | rw [s_blk] | rw [s_reg (by simp [go_sem, hL]; exact ⟨rfl, rfl⟩)] | rw [t_cnd (by simp [lk, keepEnv, Od.v, hL]; exact rfl)] | rw [t_blk]))
    (try simp only [keepEnv, List.map_cons, List.map_nil, lk, reduceIte, Nat.reduceEqDiff, Nat.zero_ne_one, Nat.one_ne_zero])
    rw [hc]
    (repeat (first | rw [s_assoc] | rw [s_seq_reg (by simp [go_sem]; exact ⟨rfl, rfl⟩)] | rw [s_cnd (by simp [lk, keepEnv, Od.v]; exact rfl)] | rw [cnd_t] | rw [cnd_f] | rw [s_skip] | rw [s_ret] | rw [s_exit] | rw [C_ret] | rw [C_exit] | rw [C_skip] | rw [blk_ret] | rw [blk_norm] | rw [blk_exit] | rw [blk_exit' (by decide)] | rw [blkT_ret] | rw [blkT_norm] | rw [blkT_exit] | rw [blkT_exit' (by decide)] | rw [s_blk] | rw [s_reg (by simp [go_sem]; exact ⟨rfl, rfl⟩)] | rw [t_cnd (by simp [lk, keepEnv, Od.v]; exact rfl)] | rw [t_blk]))
    simp [ends_ret, ends_norm, resL, go_sem, fin, fz0, fz1, fzT, fzL, nlt]
  · rw [List.drop_zero, show ((0 : Nat) : Int) = 0 from rfl] at hc
    rw [E_go (X := X) _ b46 _ rfl rfl]; unfold b46
    generalize fidx P xs 0 = r at *
    (repeat (first | rw [s_assoc] | rw [s_seq_reg (by simp [go_sem, hL]; exact ⟨rfl, rfl⟩)] | rw [s_cnd (by simp [lk, keepEnv, Od.v, hL]; exact rfl)] | rw [cnd_t] | rw [cnd_f] | rw [s_skip] | rw [s_ret] | rw [s_exit] | rw [C_ret] | rw [C_exit] | rw [C_skip] | rw [blk_ret] | rw [blk_norm] | rw [blk_exit] | rw [blk_exit' (by decide)] | rw [blkT_ret] | rw [blkT_norm] | rw [blkT_exit] | rw [blkT_exit' (by decide)] | rw [s_blk] | rw [s_reg (by simp [go_sem, hL]; exact ⟨rfl, rfl⟩)] | rw [t_cnd (by simp [lk, keepEnv, Od.v, hL]; exact rfl)] | rw [t_blk]))
    (try simp only [keepEnv, List.map_cons, List.map_nil, lk, reduceIte, Nat.reduceEqDiff, Nat.zero_ne_one, Nat.one_ne_zero])
    rw [hc]
    (repeat (first | rw [s_assoc] | rw [s_seq_reg (by simp [go_sem]; exact ⟨rfl, rfl⟩)] | rw [s_cnd (by simp [lk, keepEnv, Od.v]; exact rfl)] | rw [cnd_t] | rw [cnd_f] | rw [s_skip] | rw [s_ret] | rw [s_exit] | rw [C_ret] | rw [C_exit] | rw [C_skip] | rw [blk_ret] | rw [blk_norm] | rw [blk_exit] | rw [blk_exit' (by decide)] | rw [blkT_ret] | rw [blkT_norm] | rw [blkT_exit] | rw [blkT_exit' (by decide)] | rw [s_blk] | rw [s_reg (by simp [go_sem]; exact ⟨rfl, rfl⟩)] | rw [t_cnd (by simp [lk, keepEnv, Od.v]; exact rfl)] | rw [t_blk]))
    simp [ends_ret, ends_norm, resL, go_sem, fin, fz0, fz1, fzT, fzL, nlt]
theorem run54 {h : Heap} {b t : Nat} {nm : ByteArray} (hb : h[b]? = some (.box t [.str nm])) (c : Cl) : E X 54 [c.d, .ref b 0] h = some (.bool (c.nm == nm), h) := by
  have hlt := (List.getElem?_eq_some_iff.1 hb).1
  have hb2 : ∀ G, (h ++ G)[b]? = some (.box t [.str nm]) := fun G => by rw [List.getElem?_append_left hlt]; exact hb
  obtain ⟨xn, xk, xl⟩ := c
  simp only [Cl.d]
  rw [E_go (X := X) _ b54 _ rfl rfl]; unfold b54; (repeat (first | rw [s_assoc] | rw [s_seq_reg (by simp [go_sem, hb, hb2, ldx]; exact ⟨rfl, rfl⟩)] | rw [s_cnd (by simp [lk, keepEnv, Od.v, hb, hb2, ldx]; exact rfl)] | rw [cnd_t] | rw [cnd_f] | rw [s_skip] | rw [s_ret] | rw [s_exit] | rw [C_ret] | rw [C_exit] | rw [C_skip] | rw [blk_ret] | rw [blk_norm] | rw [blk_exit] | rw [blk_exit' (by decide)] | rw [blkT_ret] | rw [blkT_norm] | rw [blkT_exit] | rw [blkT_exit' (by decide)] | rw [s_blk] | rw [s_reg (by simp [go_sem, hb, hb2, ldx]; exact ⟨rfl, rfl⟩)] | rw [t_cnd (by simp [lk, keepEnv, Od.v, hb, hb2, ldx]; exact rfl)] | rw [t_blk])); simp [ends_ret, ends_norm, resL, go_sem, fin, fz0, fz1, fzT, fzL, nlt, hb, hb2, ldx]
theorem run40 {C : DV} {s : Sch} (hC : ∀ g, vw g 3 C = some (s.cols.map Cl.d)) (hb : s.cols.length ≤ 1000) (nm : ByteArray) (H : Heap) : E X 40 [schD C s, .str nm] H = some (.int .i64 (fidx (fun c => c.nm == nm) s.cols 0), H) := by
  obtain ⟨h, hh⟩ : ∃ h, h = H ++ [HO.box 24 (schC C s), .box 9 [.str nm]] := ⟨_, rfl⟩
  have hb' : h[H.length + 1]? = some (.box 9 [.str nm]) := by rw [hh]; simp [hget]
  have e53 := run53 (h := h) (f := 54) (cap := [.ref (H.length + 1) 0]) (P := fun c => c.nm == nm) (hC h) (fun c _ => run54 hb' c) (by omega)
  subst hh
  obtain ⟨cols, k1, k2, k3, k4⟩ := s
  simp only [schD, schC] at *
  generalize fidx (fun c => c.nm == nm) cols 0 = r at *
  clear hb'
  rw [E_go (X := X) _ b40 _ rfl rfl]; unfold b40; (repeat (first | rw [s_assoc] | rw [s_seq_reg (by simp [go_sem, e53]; exact ⟨rfl, rfl⟩)] | rw [s_cnd (by simp [lk, keepEnv, Od.v, e53]; exact rfl)] | rw [cnd_t] | rw [cnd_f] | rw [s_skip] | rw [s_ret] | rw [s_exit] | rw [C_ret] | rw [C_exit] | rw [C_skip] | rw [blk_ret] | rw [blk_norm] | rw [blk_exit] | rw [blk_exit' (by decide)] | rw [blkT_ret] | rw [blkT_norm] | rw [blkT_exit] | rw [blkT_exit' (by decide)] | rw [s_blk] | rw [s_reg (by simp [go_sem, e53]; exact ⟨rfl, rfl⟩)] | rw [t_cnd (by simp [lk, keepEnv, Od.v, e53]; exact rfl)] | rw [t_blk])); simp [ends_ret, ends_norm, resL, go_sem, fin, fz0, fz1, fzT, fzL, nlt, e53]
def getI {α : Type} (l : List α) (i : Int) : Option α := if 0 ≤ i then l[i.toNat]? else none
theorem getI_none {α : Type} {l : List α} {i : Int} (h : ¬ (0 ≤ i ∧ i < l.length)) : getI l i = none := by
  unfold getI
  split
  · exact List.getElem?_eq_none (by omega)
  · rfl
def ofV (s : Sch) (i kind : Int) : Bool := match getI s.cols i with
  | some c => !c.nl && (kind == 0 || c.kd == kind)
  | none => false
theorem run55 {C : DV} {s : Sch} (hC : ∀ g, vw g 3 C = some (s.cols.map Cl.d)) (i kind : Int) (H : Heap) : E X 55 [schD C s, .int .i64 i, .int .i64 kind] H = some (.bool (ofV s i kind), H) := by
  by_cases c1 : 0 ≤ i
  · obtain ⟨p, rfl⟩ : ∃ p : Nat, i = p := ⟨i.toNat, by omega⟩
    by_cases c2 : p < s.cols.length
    · obtain ⟨c, hc⟩ : ∃ c, c = s.cols[p] := ⟨_, rfl⟩
      have hci : s.cols[p]? = some c := by rw [hc]; exact List.getElem?_eq_getElem c2
      have hc' := hc.symm
      have hv : ofV s p kind = (!c.nl && (kind == 0 || c.kd == kind)) := by
        unfold ofV getI
        rw [if_pos c1, Int.toNat_natCast, hci]
      rw [hv]
      clear hv hc
      obtain ⟨cols, k1, k2, k3, k4⟩ := s
      obtain ⟨xn, xk, xl⟩ := c
      simp only [schD, schC] at *
      have c2 : p < cols.length := c2
      cases xl
      · by_cases c3 : kind = 0
        · subst c3
          rw [E_go (X := X) _ b55 _ rfl rfl]; unfold b55; (repeat (first | rw [s_assoc] | rw [s_seq_reg (by simp [go_sem, hC, c1, c2, hci, hc', ldx]; exact ⟨rfl, rfl⟩)] | rw [s_cnd (by simp [lk, keepEnv, Od.v, hC, c1, c2, hci, hc', ldx]; exact rfl)] | rw [cnd_t] | rw [cnd_f] | rw [s_skip] | rw [s_ret] | rw [s_exit] | rw [C_ret] | rw [C_exit] | rw [C_skip] | rw [blk_ret] | rw [blk_norm] | rw [blk_exit] | rw [blk_exit' (by decide)] | rw [blkT_ret] | rw [blkT_norm] | rw [blkT_exit] | rw [blkT_exit' (by decide)] | rw [s_blk] | rw [s_reg (by simp [go_sem, hC, c1, c2, hci, hc', ldx]; exact ⟨rfl, rfl⟩)] | rw [t_cnd (by simp [lk, keepEnv, Od.v, hC, c1, c2, hci, hc', ldx]; exact rfl)] | rw [t_blk])); simp [ends_ret, ends_norm, resL, go_sem, fin, fz0, fz1, fzT, fzL, nlt, hC, c1, c2, hci, hc', ldx]
        · have d3 : (kind == 0) = false := by simpa using c3
          rw [E_go (X := X) _ b55 _ rfl rfl]; unfold b55; (repeat (first | rw [s_assoc] | rw [s_seq_reg (by simp [go_sem, hC, c1, c2, hci, hc', c3, d3, ldx]; exact ⟨rfl, rfl⟩)] | rw [s_cnd (by simp [lk, keepEnv, Od.v, hC, c1, c2, hci, hc', c3, d3, ldx]; exact rfl)] | rw [cnd_t] | rw [cnd_f] | rw [s_skip] | rw [s_ret] | rw [s_exit] | rw [C_ret] | rw [C_exit] | rw [C_skip] | rw [blk_ret] | rw [blk_norm] | rw [blk_exit] | rw [blk_exit' (by decide)] | rw [blkT_ret] | rw [blkT_norm] | rw [blkT_exit] | rw [blkT_exit' (by decide)] | rw [s_blk] | rw [s_reg (by simp [go_sem, hC, c1, c2, hci, hc', c3, d3, ldx]; exact ⟨rfl, rfl⟩)] | rw [t_cnd (by simp [lk, keepEnv, Od.v, hC, c1, c2, hci, hc', c3, d3, ldx]; exact rfl)] | rw [t_blk])); simp [ends_ret, ends_norm, resL, go_sem, fin, fz0, fz1, fzT, fzL, nlt, hC, c1, c2, hci, hc', c3, d3, ldx]
      · rw [E_go (X := X) _ b55 _ rfl rfl]; unfold b55; (repeat (first | rw [s_assoc] | rw [s_seq_reg (by simp [go_sem, hC, c1, c2, hci, hc', ldx]; exact ⟨rfl, rfl⟩)] | rw [s_cnd (by simp [lk, keepEnv, Od.v, hC, c1, c2, hci, hc', ldx]; exact rfl)] | rw [cnd_t] | rw [cnd_f] | rw [s_skip] | rw [s_ret] | rw [s_exit] | rw [C_ret] | rw [C_exit] | rw [C_skip] | rw [blk_ret] | rw [blk_norm] | rw [blk_exit] | rw [blk_exit' (by decide)] | rw [blkT_ret] | rw [blkT_norm] | rw [blkT_exit] | rw [blkT_exit' (by decide)] | rw [s_blk] | rw [s_reg (by simp [go_sem, hC, c1, c2, hci, hc', ldx]; exact ⟨rfl, rfl⟩)] | rw [t_cnd (by simp [lk, keepEnv, Od.v, hC, c1, c2, hci, hc', ldx]; exact rfl)] | rw [t_blk])); simp [ends_ret, ends_norm, resL, go_sem, fin, fz0, fz1, fzT, fzL, nlt, hC, c1, c2, hci, hc', ldx]
    · have d2 : ¬ (p : Int) < (s.cols.length : Int) := by omega
      have hv : ofV s p kind = false := by unfold ofV; rw [getI_none (by omega)]
      rw [hv]
      obtain ⟨cols, k1, k2, k3, k4⟩ := s
      simp only [schD, schC] at *
      rw [E_go (X := X) _ b55 _ rfl rfl]; unfold b55; (repeat (first | rw [s_assoc] | rw [s_seq_reg (by simp [go_sem, hC, c1, c2, d2, ldx]; exact ⟨rfl, rfl⟩)] | rw [s_cnd (by simp [lk, keepEnv, Od.v, hC, c1, c2, d2, ldx]; exact rfl)] | rw [cnd_t] | rw [cnd_f] | rw [s_skip] | rw [s_ret] | rw [s_exit] | rw [C_ret] | rw [C_exit] | rw [C_skip] | rw [blk_ret] | rw [blk_norm] | rw [blk_exit] | rw [blk_exit' (by decide)] | rw [blkT_ret] | rw [blkT_norm] | rw [blkT_exit] | rw [blkT_exit' (by decide)] | rw [s_blk] | rw [s_reg (by simp [go_sem, hC, c1, c2, d2, ldx]; exact ⟨rfl, rfl⟩)] | rw [t_cnd (by simp [lk, keepEnv, Od.v, hC, c1, c2, d2, ldx]; exact rfl)] | rw [t_blk])); simp [ends_ret, ends_norm, resL, go_sem, fin, fz0, fz1, fzT, fzL, nlt, hC, c1, c2, d2, ldx]
  · have hv : ofV s i kind = false := by unfold ofV; rw [getI_none (by omega)]
    rw [hv]
    obtain ⟨cols, k1, k2, k3, k4⟩ := s
    simp only [schD, schC] at *
    rw [E_go (X := X) _ b55 _ rfl rfl]; unfold b55; (repeat (first | rw [s_assoc] | rw [s_seq_reg (by simp [go_sem, hC, c1, ldx]; exact ⟨rfl, rfl⟩)] | rw [s_cnd (by simp [lk, keepEnv, Od.v, hC, c1, ldx]; exact rfl)] | rw [cnd_t] | rw [cnd_f] | rw [s_skip] | rw [s_ret] | rw [s_exit] | rw [C_ret] | rw [C_exit] | rw [C_skip] | rw [blk_ret] | rw [blk_norm] | rw [blk_exit] | rw [blk_exit' (by decide)] | rw [blkT_ret] | rw [blkT_norm] | rw [blkT_exit] | rw [blkT_exit' (by decide)] | rw [s_blk] | rw [s_reg (by simp [go_sem, hC, c1, ldx]; exact ⟨rfl, rfl⟩)] | rw [t_cnd (by simp [lk, keepEnv, Od.v, hC, c1, ldx]; exact rfl)] | rw [t_blk])); simp [ends_ret, ends_norm, resL, go_sem, fin, fz0, fz1, fzT, fzL, nlt, hC, c1, ldx]
def keyedV (s : Sch) : Bool := if s.key = -1 then s.cmp == -1 && s.del == -1 else ofV s s.key 0 && (ofV s s.cmp 1 && (s.del == -1 || ofV s s.del 3))
theorem run41 {C : DV} {s : Sch} (hC : ∀ g, vw g 3 C = some (s.cols.map Cl.d)) (H : Heap) : E X 41 [schD C s] H = some (.bool (keyedV s), H) := by
  have e1 := fun g => run55 hC s.key 0 g
  have e2 := fun g => run55 hC s.cmp 1 g
  have e3 := fun g => run55 hC s.del 3 g
  unfold keyedV
  generalize ofV s s.key 0 = v1 at *
  generalize ofV s s.cmp 1 = v2 at *
  generalize ofV s s.del 3 = v3 at *
  obtain ⟨cols, k1, k2, k3, k4⟩ := s
  simp only [schD, schC] at *
  by_cases c1 : k1 = -1
  · subst c1
    by_cases c2 : k2 = -1
    · subst c2
      rw [E_go (X := X) _ b41 _ rfl rfl]; unfold b41; (repeat (first | rw [s_assoc] | rw [s_seq_reg (by simp [go_sem, e1]; exact ⟨rfl, rfl⟩)] | rw [s_cnd (by simp [lk, keepEnv, Od.v, e1]; exact rfl)] | rw [cnd_t] | rw [cnd_f] | rw [s_skip] | rw [s_ret] | rw [s_exit] | rw [C_ret] | rw [C_exit] | rw [C_skip] | rw [blk_ret] | rw [blk_norm] | rw [blk_exit] | rw [blk_exit' (by decide)] | rw [blkT_ret] | rw [blkT_norm] | rw [blkT_exit] | rw [blkT_exit' (by decide)] | rw [s_blk] | rw [s_reg (by simp [go_sem, e1]; exact ⟨rfl, rfl⟩)] | rw [t_cnd (by simp [lk, keepEnv, Od.v, e1]; exact rfl)] | rw [t_blk])); simp [ends_ret, ends_norm, resL, go_sem, fin, fz0, fz1, fzT, fzL, nlt, e1]
    · have d2 : (k2 == -1) = false := by simpa using c2
      rw [E_go (X := X) _ b41 _ rfl rfl]; unfold b41; (repeat (first | rw [s_assoc] | rw [s_seq_reg (by simp [go_sem, e1, c2, d2]; exact ⟨rfl, rfl⟩)] | rw [s_cnd (by simp [lk, keepEnv, Od.v, e1, c2, d2]; exact rfl)] | rw [cnd_t] | rw [cnd_f] | rw [s_skip] | rw [s_ret] | rw [s_exit] | rw [C_ret] | rw [C_exit] | rw [C_skip] | rw [blk_ret] | rw [blk_norm] | rw [blk_exit] | rw [blk_exit' (by decide)] | rw [blkT_ret] | rw [blkT_norm] | rw [blkT_exit] | rw [blkT_exit' (by decide)] | rw [s_blk] | rw [s_reg (by simp [go_sem, e1, c2, d2]; exact ⟨rfl, rfl⟩)] | rw [t_cnd (by simp [lk, keepEnv, Od.v, e1, c2, d2]; exact rfl)] | rw [t_blk])); simp [ends_ret, ends_norm, resL, go_sem, fin, fz0, fz1, fzT, fzL, nlt, e1, c2, d2]
  · have d1 : (k1 == -1) = false := by simpa using c1
    by_cases c3 : k3 = -1
    · subst c3
      cases v1 <;> cases v2
      all_goals
        rw [E_go (X := X) _ b41 _ rfl rfl]; unfold b41; (repeat (first | rw [s_assoc] | rw [s_seq_reg (by simp [go_sem, e1, e2, e3, c1, d1]; exact ⟨rfl, rfl⟩)] | rw [s_cnd (by simp [lk, keepEnv, Od.v, e1, e2, e3, c1, d1]; exact rfl)] | rw [cnd_t] | rw [cnd_f] | rw [s_skip] | rw [s_ret] | rw [s_exit] | rw [C_ret] | rw [C_exit] | rw [C_skip] | rw [blk_ret] | rw [blk_norm] | rw [blk_exit] | rw [blk_exit' (by decide)] | rw [blkT_ret] | rw [blkT_norm] | rw [blkT_exit] | rw [blkT_exit' (by decide)] | rw [s_blk] | rw [s_reg (by simp [go_sem, e1, e2, e3, c1, d1]; exact ⟨rfl, rfl⟩)] | rw [t_cnd (by simp [lk, keepEnv, Od.v, e1, e2, e3, c1, d1]; exact rfl)] | rw [t_blk])); simp [ends_ret, ends_norm, resL, go_sem, fin, fz0, fz1, fzT, fzL, nlt, e1, e2, e3, c1, d1]
    · have d3 : (k3 == -1) = false := by simpa using c3
      cases v1 <;> cases v2 <;> cases v3
      all_goals
        rw [E_go (X := X) _ b41 _ rfl rfl]; unfold b41; (repeat (first | rw [s_assoc] | rw [s_seq_reg (by simp [go_sem, e1, e2, e3, c1, d1, c3, d3]; exact ⟨rfl, rfl⟩)] | rw [s_cnd (by simp [lk, keepEnv, Od.v, e1, e2, e3, c1, d1, c3, d3]; exact rfl)] | rw [cnd_t] | rw [cnd_f] | rw [s_skip] | rw [s_ret] | rw [s_exit] | rw [C_ret] | rw [C_exit] | rw [C_skip] | rw [blk_ret] | rw [blk_norm] | rw [blk_exit] | rw [blk_exit' (by decide)] | rw [blkT_ret] | rw [blkT_norm] | rw [blkT_exit] | rw [blkT_exit' (by decide)] | rw [s_blk] | rw [s_reg (by simp [go_sem, e1, e2, e3, c1, d1, c3, d3]; exact ⟨rfl, rfl⟩)] | rw [t_cnd (by simp [lk, keepEnv, Od.v, e1, e2, e3, c1, d1, c3, d3]; exact rfl)] | rw [t_blk])); simp [ends_ret, ends_norm, resL, go_sem, fin, fz0, fz1, fzT, fzL, nlt, e1, e2, e3, c1, d1, c3, d3]
end Go.Proofs.YtobpbjmnonbblaaDoor
