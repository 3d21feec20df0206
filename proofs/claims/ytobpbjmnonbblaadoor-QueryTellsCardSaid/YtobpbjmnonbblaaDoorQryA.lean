/- Ideal runs: strings.Trim by a set of letters; may a column's name be? -/
import Derived.Test.YtobpbjmnonbblaaDoorPlainC
import Derived.Test.YtobpbjmnonbblaaDoorWrap
namespace Go.Proofs.YtobpbjmnonbblaaDoor
attribute [local go_sem] evOps evOp_n evOp_r evOp_d evOp_dr kpo_refl kpo_app cnd_some cnd_pair cnd_cnd_t cnd_cnd_f cnd_same cnd_dvb cnd_and cnd_or gd_bool gd_boolf gd_tup cnd_t cnd_f evTo isCall evx put lk Od.v keepEnv enterEnv ldx_ref rdc binx binI binS unx eqk DV.isU DV.cells hget hget0 hset hset0 stx_ref splice fillp mat eqcs eqs one_bool one_int one_str one_nilp one_ref one_elem one_nils one_list one_row one_nilm one_map one_nilf one_func one_nili one_ifc one_agg one_tup one_undef one_fresh
attribute [local go_sem ↓] evx_pick
set_option linter.unusedVariables false
set_option linter.unusedSimpArgs false
set_option maxRecDepth 10000
def isL (b : Nat) : Bool := (decide (97 ≤ b) && decide (b ≤ 122)) || (decide (48 ≤ b) && decide (b ≤ 57)) || decide (b = 95)
def lettersB : ByteArray := ⟨#[97, 98, 99, 100, 101, 102, 103, 104, 105, 106, 107, 108, 109, 110, 111, 112, 113, 114, 115, 116, 117, 118, 119, 120, 121, 122, 48, 49, 50, 51, 52, 53, 54, 55, 56, 57, 95]⟩
def setC : List DV := (List.range 256).map fun c => .bool (isL c)
theorem set_at (c : Nat) (hc : c < 256) : setC[c]? = some (.bool (isL c)) := by simp [setC, hc]
theorem run80 {h : Heap} {a : Nat} (hA : h[a]? = some (.box 98 setC)) (c : Nat) (hc : c < 256) : E X 80 [.ref a 0, .int .u8 c] h = some (.bool (isL c), h) := by
  have hs := set_at c hc
  have h1 : (0 : Int) ≤ (c : Int) := by omega
  have h2 : (c : Int) < 256 := by omega
  rw [E_go (X := X) _ b80 _ rfl rfl]; unfold b80; (repeat (first | rw [s_assoc] | rw [s_seq_reg (by simp [go_sem, hA, hs, hc, h1, h2, ldx]; exact ⟨rfl, rfl⟩)] | rw [s_cnd (by simp [lk, keepEnv, Od.v, hA, hs, hc, h1, h2, ldx]; exact rfl)] | rw [cnd_t] | rw [cnd_f] | rw [s_skip] | rw [s_ret] | rw [s_exit] | rw [C_ret] | rw [C_exit] | rw [C_skip] | rw [blk_ret] | rw [blk_norm] | rw [blk_exit] | rw [blk_exit' (by decide)] | rw [blkT_ret] | rw [blkT_norm] | rw [blkT_exit] | rw [blkT_exit' (by decide)] | rw [s_blk] | rw [s_reg (by simp [go_sem, hA, hs, hc, h1, h2, ldx]; exact ⟨rfl, rfl⟩)] | rw [t_cnd (by simp [lk, keepEnv, Od.v, hA, hs, hc, h1, h2, ldx]; exact rfl)] | rw [t_blk])); simp [ends_ret, ends_norm, resL, go_sem, fin, fz0, fz1, fzT, fzL, nlt, hA, hs, hc, h1, h2, ldx]
def isLb (s : ByteArray) (j : Nat) : Bool := isL (s.data.toList.getD j 0).toNat
theorem isLb_at {s : ByteArray} {j : Nat} {b : UInt8} (h : s.data.toList[j]? = some b) : isLb s j = isL b.toNat := by
  rw [isLb, List.getD_eq_getElem?_getD, h]; rfl
theorem ext_toList (s : ByteArray) (a b : Nat) : (s.extract a b).data.toList = (s.data.toList.take b).drop a := by
  rw [ByteArray.data_extract, Array.toList_extract, List.extract_eq_take_drop, List.drop_take]
theorem loop71 {h : Heap} {a : Nat} {s : ByteArray} (hA : h[a]? = some (.box 98 setC)) (hb : s.size ≤ 1000000) :
    ∀ k, k ≤ s.size → ∃ m ex, m ≤ k ∧ (m = 0 ∨ isLb s (m - 1) = false) ∧ (∀ j, m ≤ j → j < k → isLb s j = true) ∧ C X (.loop lp71_0) [(0, .str (s.extract 0 k)), (1, .ref a 0)] h = some (.exit 0, (0, .str (s.extract 0 m)) :: ex, h) := by
  intro k
  induction k with
  | zero =>
    intro _
    refine ⟨0, [(1, .ref a 0), (7, .bool false)], Nat.le_refl _, .inl rfl, fun j h1 h2 => by omega, ?_⟩
    obtain ⟨t, ht⟩ : ∃ t, t = s.extract 0 0 := ⟨_, rfl⟩
    have hz : t.size = 0 := by rw [ht, ByteArray.size_extract]; omega
    rw [← ht]
    clear ht
    rw [t_loop]
    unfold lp71_0
    (repeat (first | rw [s_assoc] | rw [s_seq_reg (by simp [go_sem, hz]; exact ⟨rfl, rfl⟩)] | rw [s_cnd (by simp [lk, keepEnv, Od.v, hz]; exact rfl)] | rw [cnd_t] | rw [cnd_f] | rw [s_skip] | rw [s_ret] | rw [s_exit] | rw [C_ret] | rw [C_exit] | rw [C_skip] | rw [blk_ret] | rw [blk_norm] | rw [blk_exit] | rw [blk_exit' (by decide)] | rw [blkT_ret] | rw [blkT_norm] | rw [blkT_exit] | rw [blkT_exit' (by decide)] | rw [s_blk] | rw [s_reg (by simp [go_sem, hz]; exact ⟨rfl, rfl⟩)] | rw [t_cnd (by simp [lk, keepEnv, Od.v, hz]; exact rfl)] | rw [t_blk]))
    rw [lp_exit]
    simp [keepEnv, lk]
  | succ k ih =>
    intro hk
    obtain ⟨m, ex, h1, h2, h3, h4⟩ := ih (by omega)
    obtain ⟨t, ht⟩ : ∃ t, t = s.extract 0 (k + 1) := ⟨_, rfl⟩
    obtain ⟨u, hu⟩ : ∃ u, u = s.extract 0 k := ⟨_, rfl⟩
    obtain ⟨K, hK⟩ : ∃ K, K = k + 1 := ⟨_, rfl⟩
    have hz : t.size = K := by rw [ht, ByteArray.size_extract]; omega
    have z1 : IntKind.i64.wrap ((K : Int) - 1) = (k : Int) := (by rw [wrap64 _ (by omega) (by omega)]; omega)
    have hsl : s.data.toList.length = s.size := by show s.data.toList.length = s.data.size; exact Array.length_toList
    obtain ⟨b, hbb⟩ : ∃ b, b = s.data.toList[k]'(by omega) := ⟨_, rfl⟩
    have hsb : s.data.toList[k]? = some b := by rw [hbb]; exact List.getElem?_eq_getElem _
    have hg : t.data.toList[k]? = some b := by rw [ht, ext_toList, List.drop_zero, List.getElem?_take, if_pos (by omega)]; exact hsb
    have hg' : t.data[k]? = some b := by rw [← Array.getElem?_toList]; exact hg
    have hx : t.extract 0 k = u := by
      rw [ht, hu, ByteArray.extract_extract]
      congr 1
      omega
    have hl := isLb_at hsb
    have e80 := run80 hA b.toNat b.toNat_lt
    have k0 : (0 : Int) < (K : Int) := by omega
    have k1 : 0 < K := by omega
    have k2 : k ≤ K := by omega
    rw [← hu] at h4
    rw [← ht]
    cases hq : isL b.toNat
    · rw [hq] at hl e80
      refine ⟨k + 1, [(1, .ref a 0), (15, .bool true)], Nat.le_refl _, .inr hl, fun j q1 q2 => by omega, ?_⟩
      rw [← ht]
      clear ht hu hbb h3 h4 ih hsb hK
      rw [t_loop]
      unfold lp71_0
      (repeat (first | rw [s_assoc] | rw [s_seq_reg (by simp [go_sem, hz, z1, hg, hg', e80, k0, k1]; exact ⟨rfl, rfl⟩)] | rw [s_cnd (by simp [lk, keepEnv, Od.v, hz, z1, hg, hg', e80, k0, k1]; exact rfl)] | rw [cnd_t] | rw [cnd_f] | rw [s_skip] | rw [s_ret] | rw [s_exit] | rw [C_ret] | rw [C_exit] | rw [C_skip] | rw [blk_ret] | rw [blk_norm] | rw [blk_exit] | rw [blk_exit' (by decide)] | rw [blkT_ret] | rw [blkT_norm] | rw [blkT_exit] | rw [blkT_exit' (by decide)] | rw [s_blk] | rw [s_reg (by simp [go_sem, hz, z1, hg, hg', e80, k0, k1]; exact ⟨rfl, rfl⟩)] | rw [t_cnd (by simp [lk, keepEnv, Od.v, hz, z1, hg, hg', e80, k0, k1]; exact rfl)] | rw [t_blk]))
      rw [lp_exit]
      simp [keepEnv, lk]
    · rw [hq] at hl e80
      refine ⟨m, ex, by omega, h2, fun j q1 q2 => ?_, ?_⟩
      · by_cases c : j = k
        · rw [c]; exact hl
        · exact h3 j q1 (by omega)
      · have hs : C X lp71_0 [(0, .str t), (1, .ref a 0)] h = some (.norm, [(0, .str u), (1, .ref a 0)], h) := by
          clear ht hu hbb h3 h4 ih hsb hK
          unfold lp71_0
          (repeat (first | rw [s_assoc] | rw [s_seq_reg (by simp [go_sem, hz, z1, hg, hg', e80, k0, k1, k2, hx, intAt]; exact ⟨rfl, rfl⟩)] | rw [s_cnd (by simp [lk, keepEnv, Od.v, hz, z1, hg, hg', e80, k0, k1, k2, hx, intAt]; exact rfl)] | rw [cnd_t] | rw [cnd_f] | rw [s_skip] | rw [s_ret] | rw [s_exit] | rw [C_ret] | rw [C_exit] | rw [C_skip] | rw [blk_ret] | rw [blk_norm] | rw [blk_exit] | rw [blk_exit' (by decide)] | rw [blkT_ret] | rw [blkT_norm] | rw [blkT_exit] | rw [blkT_exit' (by decide)] | rw [s_blk] | rw [s_reg (by simp [go_sem, hz, z1, hg, hg', e80, k0, k1, k2, hx, intAt]; exact ⟨rfl, rfl⟩)] | rw [t_cnd (by simp [lk, keepEnv, Od.v, hz, z1, hg, hg', e80, k0, k1, k2, hx, intAt]; exact rfl)] | rw [t_blk]))
          simp [keepEnv, lk]
        rw [t_loop, hs, lp_norm]
        exact h4
theorem loop70 {h : Heap} {a : Nat} {s : ByteArray} (hA : h[a]? = some (.box 98 setC)) (hb : s.size ≤ 1000000) :
    ∀ k j, s.size - j ≤ k → j ≤ s.size → ∃ p ex, j ≤ p ∧ p ≤ s.size ∧ (p = s.size ∨ isLb s p = false) ∧ (∀ q, j ≤ q → q < p → isLb s q = true) ∧ C X (.loop lp70_0) [(0, .str (s.extract j s.size)), (1, .ref a 0)] h = some (.exit 0, (0, .str (s.extract p s.size)) :: ex, h) := by
  intro k
  induction k with
  | zero =>
    intro j h1 h2
    obtain rfl : j = s.size := by omega
    refine ⟨s.size, [(1, .ref a 0), (7, .bool false)], Nat.le_refl _, Nat.le_refl _, .inl rfl, fun j h1 h2 => by omega, ?_⟩
    obtain ⟨t, ht⟩ : ∃ t, t = s.extract s.size s.size := ⟨_, rfl⟩
    have hz : t.size = 0 := by rw [ht, ByteArray.size_extract]; omega
    rw [← ht]
    clear ht
    rw [t_loop]
    unfold lp70_0
    (repeat (first | rw [s_assoc] | rw [s_seq_reg (by simp [go_sem, hz]; exact ⟨rfl, rfl⟩)] | rw [s_cnd (by simp [lk, keepEnv, Od.v, hz]; exact rfl)] | rw [cnd_t] | rw [cnd_f] | rw [s_skip] | rw [s_ret] | rw [s_exit] | rw [C_ret] | rw [C_exit] | rw [C_skip] | rw [blk_ret] | rw [blk_norm] | rw [blk_exit] | rw [blk_exit' (by decide)] | rw [blkT_ret] | rw [blkT_norm] | rw [blkT_exit] | rw [blkT_exit' (by decide)] | rw [s_blk] | rw [s_reg (by simp [go_sem, hz]; exact ⟨rfl, rfl⟩)] | rw [t_cnd (by simp [lk, keepEnv, Od.v, hz]; exact rfl)] | rw [t_blk]))
    rw [lp_exit]
    simp [keepEnv, lk]
  | succ k ih =>
    intro j h1 h2
    by_cases c : j < s.size
    · obtain ⟨p, ex, i1, i2, i3, i4, i5⟩ := ih (j + 1) (by omega) (by omega)
      obtain ⟨t, ht⟩ : ∃ t, t = s.extract j s.size := ⟨_, rfl⟩
      obtain ⟨u, hu⟩ : ∃ u, u = s.extract (j + 1) s.size := ⟨_, rfl⟩
      obtain ⟨K, hK⟩ : ∃ K, K = s.size - j := ⟨_, rfl⟩
      have hz : t.size = K := by rw [ht, ByteArray.size_extract]; omega
      have hsl : s.data.toList.length = s.size := by show s.data.toList.length = s.data.size; exact Array.length_toList
      obtain ⟨b, hbb⟩ : ∃ b, b = s.data.toList[j]'(by omega) := ⟨_, rfl⟩
      have hsb : s.data.toList[j]? = some b := by rw [hbb]; exact List.getElem?_eq_getElem _
      have hg : t.data.toList[0]? = some b := by rw [ht, ext_toList, List.getElem?_drop, Nat.add_zero, List.getElem?_take, if_pos (by omega)]; exact hsb
      have hg' : t.data[0]? = some b := by rw [← Array.getElem?_toList]; exact hg
      have hg2 : ∀ hb : 0 < t.data.size, t.data[0]'hb = b := fun hb => by rw [Array.getElem?_eq_getElem hb] at hg'; injection hg'
      have hx : t.extract 1 K = u := by
        rw [ht, hu, ByteArray.extract_extract]
        congr 1
        omega
      have hl := isLb_at hsb
      have e80 := run80 hA b.toNat b.toNat_lt
      have k0 : (0 : Int) < (K : Int) := by omega
      have k1 : 0 < K := by omega
      have k2 : 1 ≤ K := by omega
      rw [← hu] at i5
      rw [← ht]
      cases hq : isL b.toNat
      · rw [hq] at hl e80
        refine ⟨j, [(1, .ref a 0), (12, .bool true)], Nat.le_refl _, h2, .inr hl, fun q q1 q2 => by omega, ?_⟩
        rw [← ht]
        clear ht hu hbb i4 i5 ih hsb hK
        rw [t_loop]
        unfold lp70_0
        (repeat (first | rw [s_assoc] | rw [s_seq_reg (by simp [go_sem, hz, hg, hg', hg2, e80, k0, k1]; exact ⟨rfl, rfl⟩)] | rw [s_cnd (by simp [lk, keepEnv, Od.v, hz, hg, hg', hg2, e80, k0, k1]; exact rfl)] | rw [cnd_t] | rw [cnd_f] | rw [s_skip] | rw [s_ret] | rw [s_exit] | rw [C_ret] | rw [C_exit] | rw [C_skip] | rw [blk_ret] | rw [blk_norm] | rw [blk_exit] | rw [blk_exit' (by decide)] | rw [blkT_ret] | rw [blkT_norm] | rw [blkT_exit] | rw [blkT_exit' (by decide)] | rw [s_blk] | rw [s_reg (by simp [go_sem, hz, hg, hg', hg2, e80, k0, k1]; exact ⟨rfl, rfl⟩)] | rw [t_cnd (by simp [lk, keepEnv, Od.v, hz, hg, hg', hg2, e80, k0, k1]; exact rfl)] | rw [t_blk]))
        rw [lp_exit]
        simp [keepEnv, lk]
      · rw [hq] at hl e80
        refine ⟨p, ex, by omega, i2, i3, fun q q1 q2 => ?_, ?_⟩
        · by_cases c : q = j
          · rw [c]; exact hl
          · exact i4 q (by omega) q2
        · have hs : C X lp70_0 [(0, .str t), (1, .ref a 0)] h = some (.norm, [(0, .str u), (1, .ref a 0)], h) := by
            clear ht hu hbb i4 i5 ih hsb hK
            unfold lp70_0
            (repeat (first | rw [s_assoc] | rw [s_seq_reg (by simp [go_sem, hz, hg, hg', hg2, e80, k0, k1, k2, hx, intAt]; exact ⟨rfl, rfl⟩)] | rw [s_cnd (by simp [lk, keepEnv, Od.v, hz, hg, hg', hg2, e80, k0, k1, k2, hx, intAt]; exact rfl)] | rw [cnd_t] | rw [cnd_f] | rw [s_skip] | rw [s_ret] | rw [s_exit] | rw [C_ret] | rw [C_exit] | rw [C_skip] | rw [blk_ret] | rw [blk_norm] | rw [blk_exit] | rw [blk_exit' (by decide)] | rw [blkT_ret] | rw [blkT_norm] | rw [blkT_exit] | rw [blkT_exit' (by decide)] | rw [s_blk] | rw [s_reg (by simp [go_sem, hz, hg, hg', hg2, e80, k0, k1, k2, hx, intAt]; exact ⟨rfl, rfl⟩)] | rw [t_cnd (by simp [lk, keepEnv, Od.v, hz, hg, hg', hg2, e80, k0, k1, k2, hx, intAt]; exact rfl)] | rw [t_blk]))
            simp [keepEnv, lk]
          rw [t_loop, hs, lp_norm]
          exact i5
    · exact ih j (by omega) h2
theorem run71 {h : Heap} {a : Nat} {s : ByteArray} (hA : h[a]? = some (.box 98 setC)) (hb : s.size ≤ 1000000) : ∃ m, m ≤ s.size ∧ (m = 0 ∨ isLb s (m - 1) = false) ∧ (∀ j, m ≤ j → j < s.size → isLb s j = true) ∧ E X 71 [.str s, .ref a 0] h = some (.str (s.extract 0 m), h) := by
  obtain ⟨m, ex, h1, h2, h3, h4⟩ := loop71 hA hb s.size (Nat.le_refl _)
  rw [ByteArray.extract_zero_size] at h4
  refine ⟨m, h1, h2, h3, ?_⟩
  generalize s.extract 0 m = t at *
  rw [E_go (X := X) _ b71 _ rfl rfl]; unfold b71
  (repeat (first | rw [s_assoc] | rw [s_seq_reg (by simp [go_sem]; exact ⟨rfl, rfl⟩)] | rw [s_cnd (by simp [lk, keepEnv, Od.v]; exact rfl)] | rw [cnd_t] | rw [cnd_f] | rw [s_skip] | rw [s_ret] | rw [s_exit] | rw [C_ret] | rw [C_exit] | rw [C_skip] | rw [blk_ret] | rw [blk_norm] | rw [blk_exit] | rw [blk_exit' (by decide)] | rw [blkT_ret] | rw [blkT_norm] | rw [blkT_exit] | rw [blkT_exit' (by decide)] | rw [s_blk] | rw [s_reg (by simp [go_sem]; exact ⟨rfl, rfl⟩)] | rw [t_cnd (by simp [lk, keepEnv, Od.v]; exact rfl)] | rw [t_blk]))
  (try simp only [keepEnv, List.map_cons, List.map_nil, lk, reduceIte, Nat.reduceEqDiff, Nat.zero_ne_one, Nat.one_ne_zero])
  rw [h4]
  (repeat (first | rw [s_assoc] | rw [s_seq_reg (by simp [go_sem]; exact ⟨rfl, rfl⟩)] | rw [s_cnd (by simp [lk, keepEnv, Od.v]; exact rfl)] | rw [cnd_t] | rw [cnd_f] | rw [s_skip] | rw [s_ret] | rw [s_exit] | rw [C_ret] | rw [C_exit] | rw [C_skip] | rw [blk_ret] | rw [blk_norm] | rw [blk_exit] | rw [blk_exit' (by decide)] | rw [blkT_ret] | rw [blkT_norm] | rw [blkT_exit] | rw [blkT_exit' (by decide)] | rw [s_blk] | rw [s_reg (by simp [go_sem]; exact ⟨rfl, rfl⟩)] | rw [t_cnd (by simp [lk, keepEnv, Od.v]; exact rfl)] | rw [t_blk]))
  simp [ends_ret, ends_norm, resL, go_sem, fin, fz0, fz1, fzT, fzL, nlt]
theorem run70 {h : Heap} {a : Nat} {s : ByteArray} (hA : h[a]? = some (.box 98 setC)) (hb : s.size ≤ 1000000) : ∃ p, p ≤ s.size ∧ (p = s.size ∨ isLb s p = false) ∧ (∀ q, q < p → isLb s q = true) ∧ E X 70 [.str s, .ref a 0] h = some (.str (s.extract p s.size), h) := by
  obtain ⟨p, ex, _, h1, h2, h3, h4⟩ := loop70 hA hb s.size 0 (by omega) (by omega)
  rw [ByteArray.extract_zero_size] at h4
  refine ⟨p, h1, h2, fun q hq => h3 q (by omega) hq, ?_⟩
  generalize s.extract p s.size = t at *
  rw [E_go (X := X) _ b70 _ rfl rfl]; unfold b70
  (repeat (first | rw [s_assoc] | rw [s_seq_reg (by simp [go_sem]; exact ⟨rfl, rfl⟩)] | rw [s_cnd (by simp [lk, keepEnv, Od.v]; exact rfl)] | rw [cnd_t] | rw [cnd_f] | rw [s_skip] | rw [s_ret] | rw [s_exit] | rw [C_ret] | rw [C_exit] | rw [C_skip] | rw [blk_ret] | rw [blk_norm] | rw [blk_exit] | rw [blk_exit' (by decide)] | rw [blkT_ret] | rw [blkT_norm] | rw [blkT_exit] | rw [blkT_exit' (by decide)] | rw [s_blk] | rw [s_reg (by simp [go_sem]; exact ⟨rfl, rfl⟩)] | rw [t_cnd (by simp [lk, keepEnv, Od.v]; exact rfl)] | rw [t_blk]))
  (try simp only [keepEnv, List.map_cons, List.map_nil, lk, reduceIte, Nat.reduceEqDiff, Nat.zero_ne_one, Nat.one_ne_zero])
  rw [h4]
  (repeat (first | rw [s_assoc] | rw [s_seq_reg (by simp [go_sem]; exact ⟨rfl, rfl⟩)] | rw [s_cnd (by simp [lk, keepEnv, Od.v]; exact rfl)] | rw [cnd_t] | rw [cnd_f] | rw [s_skip] | rw [s_ret] | rw [s_exit] | rw [C_ret] | rw [C_exit] | rw [C_skip] | rw [blk_ret] | rw [blk_norm] | rw [blk_exit] | rw [blk_exit' (by decide)] | rw [blkT_ret] | rw [blkT_norm] | rw [blkT_exit] | rw [blkT_exit' (by decide)] | rw [s_blk] | rw [s_reg (by simp [go_sem]; exact ⟨rfl, rfl⟩)] | rw [t_cnd (by simp [lk, keepEnv, Od.v]; exact rfl)] | rw [t_blk]))
  simp [ends_ret, ends_norm, resL, go_sem, fin, fz0, fz1, fzT, fzL, nlt]
/-- The set, when so many letters are in it. -/
def cellsAt (i : Nat) : List DV := (List.range 256).map fun c => .bool ((lettersB.data.toList.take i).any fun x => x.toNat == c)
theorem cells_len (i : Nat) : (cellsAt i).length = 256 := by simp [cellsAt]
theorem cells_all (i : Nat) : (cellsAt i).all DV.one = true := by simp [cellsAt, DV.one]
theorem cells_zero : cellsAt 0 = zrep 256 (.bool false) := by
  unfold cellsAt zrep
  apply List.ext_getElem?
  intro i
  rw [List.getElem?_replicate, List.getElem?_map]
  by_cases c : i < 256
  · rw [List.getElem?_range c, if_pos c]; rfl
  · rw [List.getElem?_eq_none (by simpa using c), if_neg c]; rfl
theorem cells_last : cellsAt 37 = setC := by
  unfold cellsAt setC
  apply List.map_congr_left
  intro c hc
  rw [List.mem_range] at hc
  have h : ∀ c : Fin 256, ((lettersB.data.toList.take 37).any fun x => x.toNat == c.val) = isL c.val := by decide +kernel
  rw [h ⟨c, hc⟩]
theorem cells_step {i : Nat} {b : UInt8} (h : lettersB.data.toList[i]? = some b) : splice (cellsAt i) b.toNat [.bool true] = cellsAt (i + 1) := by
  have hb := b.toNat_lt
  obtain ⟨hi, hbi⟩ := List.getElem?_eq_some_iff.1 h
  have ht : lettersB.data.toList.take (i + 1) = lettersB.data.toList.take i ++ [b] := by rw [List.take_add_one, h]; rfl
  apply List.ext_getElem?
  intro j
  have h1 : splice (cellsAt i) b.toNat [.bool true] = (cellsAt i).set b.toNat (.bool true) := by
    rw [List.set_eq_take_append_cons_drop, if_pos (by rw [cells_len]; exact hb)]
    simp [splice]
  rw [h1, List.getElem?_set]
  by_cases c1 : b.toNat = j
  · subst c1
    rw [if_pos rfl, if_pos (by rw [cells_len]; exact hb)]
    unfold cellsAt
    rw [List.getElem?_map, List.getElem?_range hb, ht]
    simp
  · rw [if_neg c1]
    unfold cellsAt
    rw [List.getElem?_map, List.getElem?_map, ht]
    by_cases c2 : j < 256
    · rw [List.getElem?_range c2]
      have : (b.toNat == j) = false := by simpa using c1
      simp [this]
    · rw [List.getElem?_eq_none (by simpa using c2)]
      rfl
theorem letters_small : ∀ i : Fin 37, ∃ b, lettersB.data.toList[i.val]? = some b ∧ b.toNat < 128 := by
  intro i
  have h : ∀ i : Fin 37, (lettersB.data.toList[i.val]?.map fun b => decide (b.toNat < 128)) = some true := by decide +kernel
  have h1 := h i
  cases hb : lettersB.data.toList[i.val]? with
  | none => rw [hb] at h1; cases h1
  | some b =>
    rw [hb] at h1
    refine ⟨b, rfl, ?_⟩
    simpa using h1
theorem loop69 (H : Heap) : ∀ (k i : Nat), 37 - i ≤ k → i ≤ 37 → ∃ ex, C X (.loop lp69_0) [(0, .str lettersB), (2, .ref H.length 0), (4, .int .i64 i)] (H ++ [.box 98 (cellsAt i)]) = some (.exit 0, (0, .str lettersB) :: (2, .ref H.length 0) :: ex, H ++ [.box 98 setC]) := by
  have hz : lettersB.size = 37 := rfl
  intro k
  induction k with
  | zero =>
    intro i hk hi
    obtain rfl : i = 37 := by omega
    refine ⟨[(4, .int .i64 37), (9, .bool false)], ?_⟩
    rw [cells_last]
    rw [t_loop]
    unfold lp69_0
    generalize lettersB = L at *
    generalize setC = sc at *
    (repeat (first | rw [s_assoc] | rw [s_seq_reg (by simp [go_sem, hz]; exact ⟨rfl, rfl⟩)] | rw [s_cnd (by simp [lk, keepEnv, Od.v, hz]; exact rfl)] | rw [cnd_t] | rw [cnd_f] | rw [s_skip] | rw [s_ret] | rw [s_exit] | rw [C_ret] | rw [C_exit] | rw [C_skip] | rw [blk_ret] | rw [blk_norm] | rw [blk_exit] | rw [blk_exit' (by decide)] | rw [blkT_ret] | rw [blkT_norm] | rw [blkT_exit] | rw [blkT_exit' (by decide)] | rw [s_blk] | rw [s_reg (by simp [go_sem, hz]; exact ⟨rfl, rfl⟩)] | rw [t_cnd (by simp [lk, keepEnv, Od.v, hz]; exact rfl)] | rw [t_blk]))
    rw [lp_exit]
    simp [keepEnv, lk]
  | succ k ih =>
    intro i hk hi
    by_cases c : i < 37
    · obtain ⟨I, hI⟩ : ∃ I, I = i + 1 := ⟨_, rfl⟩
      have z1 : IntKind.i64.wrap ((i : Int) + 1) = (I : Int) := (by rw [wrap64 _ (by omega) (by omega)]; omega)
      obtain ⟨b, hg, hb⟩ := letters_small ⟨i, c⟩
      simp only at hg
      have hst := cells_step hg
      rw [← hI] at hst
      obtain ⟨ex, hc⟩ := ih I (by omega) (by omega)
      refine ⟨ex, ?_⟩
      have hg' : lettersB.data[i]? = some b := by rw [← Array.getElem?_toList]; exact hg
      have hg2 : ∀ hb : i < lettersB.data.size, lettersB.data[i]'hb = b := fun hb => by rw [Array.getElem?_eq_getElem hb] at hg'; injection hg'
      have c1 : (i : Int) < 37 := by omega
      have d1 : ¬ (128 : Int) ≤ (b.toNat : Int) := by omega
      have d2 : ¬ 128 ≤ b.toNat := by omega
      have d3 : (0 : Int) ≤ (b.toNat : Int) := by omega
      have d4 : (b.toNat : Int) < 256 := by omega
      have d5 : b.toNat < 256 := by omega
      have d6 : b.toNat + 1 ≤ 256 := by omega
      have hl := cells_len i
      have hs : C X lp69_0 [(0, .str lettersB), (2, .ref H.length 0), (4, .int .i64 i)] (H ++ [.box 98 (cellsAt i)]) = some (.norm, [(0, .str lettersB), (2, .ref H.length 0), (4, .int .i64 I)], H ++ [.box 98 (cellsAt I)]) := by
        clear ih hc hI
        rw [← hst]
        clear hst
        unfold lp69_0
        generalize lettersB = L at *
        generalize cellsAt i = cs at *
        (repeat (first | rw [s_assoc] | rw [s_seq_reg (by simp [go_sem, hz, z1, hg, hg', hg2, c, c1, d1, d2, d3, d4, d5, d6, hl]; exact ⟨rfl, rfl⟩)] | rw [s_cnd (by simp [lk, keepEnv, Od.v, hz, z1, hg, hg', hg2, c, c1, d1, d2, d3, d4, d5, d6, hl]; exact rfl)] | rw [cnd_t] | rw [cnd_f] | rw [s_skip] | rw [s_ret] | rw [s_exit] | rw [C_ret] | rw [C_exit] | rw [C_skip] | rw [blk_ret] | rw [blk_norm] | rw [blk_exit] | rw [blk_exit' (by decide)] | rw [blkT_ret] | rw [blkT_norm] | rw [blkT_exit] | rw [blkT_exit' (by decide)] | rw [s_blk] | rw [s_reg (by simp [go_sem, hz, z1, hg, hg', hg2, c, c1, d1, d2, d3, d4, d5, d6, hl]; exact ⟨rfl, rfl⟩)] | rw [t_cnd (by simp [lk, keepEnv, Od.v, hz, z1, hg, hg', hg2, c, c1, d1, d2, d3, d4, d5, d6, hl]; exact rfl)] | rw [t_blk]))
        simp [keepEnv, lk, splice]
      rw [t_loop, hs, lp_norm]
      exact hc
    · exact ih i (by omega) hi
theorem fzL_bool (n : Nat) : ∀ (cs : List DV) (h : Heap), (∀ x ∈ cs, ∃ b, x = .bool b) → fzL n cs h = some (cs, h)
  | [], _, _ => rfl
  | c :: cs, h, hn => by
    obtain ⟨b, rfl⟩ := hn c List.mem_cons_self
    have := fzL_bool n cs h fun x hx => hn x (List.mem_cons_of_mem _ hx)
    simp [fzL, fz0, this]
theorem run69 (H : Heap) : E X 69 [.str lettersB] H = some (.tup [.agg setC, .bool true], H) := by
  obtain ⟨ex, hc⟩ := loop69 H 37 0 (by omega) (by omega)
  rw [cells_zero, show ((0 : Nat) : Int) = 0 from rfl] at hc
  have hl : setC.length = 256 := by rw [← cells_last]; exact cells_len _
  have ha : setC.all DV.one = true := by rw [← cells_last]; exact cells_all _
  have hfz : ∀ g, fzL H.length setC g = some (setC, g) := fun g => fzL_bool _ _ _ (fun x hx => by
    obtain ⟨c, _, rfl⟩ := List.mem_map.1 hx
    exact ⟨_, rfl⟩)
  have htk : setC.take 256 = setC := List.take_of_length_le (by omega)
  have hdr : setC.drop 256 = [] := List.drop_of_length_le (by omega)
  rw [E_go (X := X) _ b69 _ rfl rfl]; unfold b69
  generalize lettersB = L at *
  generalize setC = sc at *
  generalize zrep 256 (.bool false) = zc at *
  (repeat (first | rw [s_assoc] | rw [s_seq_reg (by simp [go_sem, hl, ha, htk, hdr]; exact ⟨rfl, rfl⟩)] | rw [s_cnd (by simp [lk, keepEnv, Od.v, hl, ha, htk, hdr]; exact rfl)] | rw [cnd_t] | rw [cnd_f] | rw [s_skip] | rw [s_ret] | rw [s_exit] | rw [C_ret] | rw [C_exit] | rw [C_skip] | rw [blk_ret] | rw [blk_norm] | rw [blk_exit] | rw [blk_exit' (by decide)] | rw [blkT_ret] | rw [blkT_norm] | rw [blkT_exit] | rw [blkT_exit' (by decide)] | rw [s_blk] | rw [s_reg (by simp [go_sem, hl, ha, htk, hdr]; exact ⟨rfl, rfl⟩)] | rw [t_cnd (by simp [lk, keepEnv, Od.v, hl, ha, htk, hdr]; exact rfl)] | rw [t_blk]))
  (try simp only [keepEnv, List.map_cons, List.map_nil, lk, reduceIte, Nat.reduceEqDiff, Nat.zero_ne_one, Nat.one_ne_zero])
  rw [hc]
  (repeat (first | rw [s_assoc] | rw [s_seq_reg (by simp [go_sem, hl, ha, htk, hdr]; exact ⟨rfl, rfl⟩)] | rw [s_cnd (by simp [lk, keepEnv, Od.v, hl, ha, htk, hdr]; exact rfl)] | rw [cnd_t] | rw [cnd_f] | rw [s_skip] | rw [s_ret] | rw [s_exit] | rw [C_ret] | rw [C_exit] | rw [C_skip] | rw [blk_ret] | rw [blk_norm] | rw [blk_exit] | rw [blk_exit' (by decide)] | rw [blkT_ret] | rw [blkT_norm] | rw [blkT_exit] | rw [blkT_exit' (by decide)] | rw [s_blk] | rw [s_reg (by simp [go_sem, hl, ha, htk, hdr]; exact ⟨rfl, rfl⟩)] | rw [t_cnd (by simp [lk, keepEnv, Od.v, hl, ha, htk, hdr]; exact rfl)] | rw [t_blk]))
  simp [ends_ret, ends_norm, resL, go_sem, fin, fz0, fz1, fzT, fzL, nlt, hl, ha, htk, hdr, hfz]
end Go.Proofs.YtobpbjmnonbblaaDoor
