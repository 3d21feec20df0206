/- Ideal runs: the document's answer on schemas (winnowerref07.May) is that of schema.May. -/
import Derived.Test.YtmbgfbomgbdjeaaGreatDoorStep
import Derived.Test.YtmbgfbomgbdjeaaGreatDoorQryA
namespace Go.Proofs.YtmbgfbomgbdjeaaGreatDoor
attribute [local go_sem] ZJ ZE ZD ZF Zt Zh Zr Zk Zm Ze Zf Zl Zu Zv ZG Zs Zi ZC Zx Zw ZV ZA Yo put lk Od.v Za Zg Zo rdc Yd Ye Yc unx eqk DV.isU DV.cells hget ZP Yb ZO Zq splice ZQ mat ZW eqs one_bool one_int one_str one_nilp one_ref one_elem one_nils one_list one_row one_nilm one_map one_nilf one_func one_nili one_ifc one_agg one_tup Yx Yy
attribute [local go_sem ↓] Zj
set_option linter.unusedVariables false
set_option linter.unusedSimpArgs false
set_option maxRecDepth 10000
theorem isL_iff (n : Nat) : isL n = true ↔ (97 ≤ n ∧ n ≤ 122) ∨ (48 ≤ n ∧ n ≤ 57) ∨ n = 95 := by
  unfold isL
  simp only [Bool.or_eq_true, Bool.and_eq_true, decide_eq_true_eq, beq_iff_eq]
  omega
theorem allL_from (s : ByteArray) (i : Nat) (h : i < s.size) {b : UInt8} (hb : s.data.toList[i]? = some b) (hp : ∀ j, j < i → isLb s j = true) (hl : isL b.toNat = false) : allL s = false := by
  cases ha : allL s with
  | false => rfl
  | true =>
    have := (allL_iff s).1 ha i h
    rw [isLb_at hb, hl] at this
    cases this
set_option maxHeartbeats 1000000 in
theorem loop77 (s : ByteArray) (hs : s.size ≤ 1000) (h : Zb) : ∀ (k i : Nat), s.size - i ≤ k → i ≤ s.size → (∀ j, j < i → isLb s j = true) → (∃ ex, C X (.loop lp77_0) [(0, .str s), (3, .int .i64 i)] h = some (.exit 0, (0, .str s) :: ex, h) ∧ allL s = true) ∨ (C X (.loop lp77_0) [(0, .str s), (3, .int .i64 i)] h = some (.ret, [(2, .bool false)], h) ∧ allL s = false) := by
  intro k
  induction k with
  | zero =>
    intro i hk hi hp
    obtain rfl : i = s.size := by omega
    refine .inl ⟨[(3, .int .i64 s.size), (16, .bool false)], ?_, (allL_iff s).2 hp⟩
    rw [Zc]
    unfold lp77_0
    refine rn trivial ?_
    rw [Zz]
    simp [Za, lk]
  | succ k ih =>
    intro i hk hi hp
    by_cases c : i < s.size
    · obtain ⟨I, hI⟩ : ∃ I, I = i + 1 := ⟨_, rfl⟩
      have z1 : IntKind.i64.wrap ((i : Int) + 1) = (I : Int) := (by rw [wrap64 _ (by omega) (by omega)]; omega)
      have hli : i < s.data.toList.length := by rw [show s.data.toList.length = s.size by show s.data.toList.length = s.data.size; exact Array.length_toList]; exact c
      obtain ⟨b, hb⟩ : ∃ b, b = s.data.toList[i] := ⟨_, rfl⟩
      have hbi : s.data.toList[i]? = some b := by rw [hb]; exact List.getElem?_eq_getElem hli
      have hb' := hb.symm
      have hc' : (i : Int) < (s.size : Int) := by omega
      have hib : isLb s i = isL b.toNat := isLb_at hbi
      have good : isL b.toNat = true → C X lp77_0 [(0, .str s), (3, .int .i64 i)] h = some (.norm, [(0, .str s), (3, .int .i64 I)], h) → (∃ ex, C X (.loop lp77_0) [(0, .str s), (3, .int .i64 i)] h = some (.exit 0, (0, .str s) :: ex, h) ∧ allL s = true) ∨ (C X (.loop lp77_0) [(0, .str s), (3, .int .i64 i)] h = some (.ret, [(2, .bool false)], h) ∧ allL s = false) := fun hg hs2 => by
        rw [Zc, hs2, ZI]
        refine ih I (by omega) (by omega) (fun j hj => ?_)
        by_cases h1 : j = i
        · rw [h1, hib]; exact hg
        · exact hp j (by omega)
      have bad : isL b.toNat = false → C X lp77_0 [(0, .str s), (3, .int .i64 i)] h = some (.ret, [(2, .bool false)], h) → (∃ ex, C X (.loop lp77_0) [(0, .str s), (3, .int .i64 i)] h = some (.exit 0, (0, .str s) :: ex, h) ∧ allL s = true) ∨ (C X (.loop lp77_0) [(0, .str s), (3, .int .i64 i)] h = some (.ret, [(2, .bool false)], h) ∧ allL s = false) := fun hg hs2 => by
        rw [Zc, hs2, lp_ret]
        exact .inr ⟨rfl, allL_from s i c hbi hp hg⟩
      have hiff := isL_iff b.toNat
      clear ih hp hib
      by_cases c1 : 97 ≤ b.toNat
      · have d1 : (97 : Int) ≤ (b.toNat : Int) := by omega
        by_cases c2 : b.toNat ≤ 122
        · have d2 : (b.toNat : Int) ≤ 122 := by omega
          refine good (hiff.2 (by omega)) ?_
          clear good bad hiff
          unfold lp77_0
          refine rn (fA9 @c @hc' @z1 @hb' @hbi @c1 @d1 @c2 @d2) ?_
          simp [Za, lk]
        · have d2 : ¬ (b.toNat : Int) ≤ 122 := by omega
          have c3 : 48 ≤ b.toNat := by omega
          have d3 : (48 : Int) ≤ (b.toNat : Int) := by omega
          have c4 : ¬ b.toNat ≤ 57 := by omega
          have d4 : ¬ (b.toNat : Int) ≤ 57 := by omega
          have d5 : ((b.toNat : Int) == 95) = false := by simp only [beq_eq_false_iff_ne, ne_eq]; omega
          refine bad (by cases hh : isL b.toNat with
            | false => rfl
            | true => have := hiff.1 hh; omega) ?_
          clear good bad hiff
          unfold lp77_0
          refine rn (fA14 @c @hc' @z1 @hb' @hbi @c1 @d1 @c2 @d2 @c3 @d3 @c4 @d4 @d5) ?_
          simp [Za, lk]
      · have d1 : ¬ (97 : Int) ≤ (b.toNat : Int) := by omega
        by_cases c3 : 48 ≤ b.toNat
        · have d3 : (48 : Int) ≤ (b.toNat : Int) := by omega
          by_cases c4 : b.toNat ≤ 57
          · have d4 : (b.toNat : Int) ≤ 57 := by omega
            refine good (hiff.2 (by omega)) ?_
            clear good bad hiff
            unfold lp77_0
            refine rn (fA11 @c @hc' @z1 @hb' @hbi @c1 @d1 @c3 @d3 @c4 @d4) ?_
            simp [Za, lk]
          · have d4 : ¬ (b.toNat : Int) ≤ 57 := by omega
            by_cases c5 : b.toNat = 95
            · have d5 : ((b.toNat : Int) == 95) = true := by simp only [beq_iff_eq]; omega
              refine good (hiff.2 (by omega)) ?_
              clear good bad hiff
              clear c5
              unfold lp77_0
              refine rn (fA12 @c @hc' @z1 @hb' @hbi @c1 @d1 @c3 @d3 @c4 @d4 @d5) ?_
              simp [Za, lk]
            · have d5 : ((b.toNat : Int) == 95) = false := by simp only [beq_eq_false_iff_ne, ne_eq]; omega
              refine bad (by cases hh : isL b.toNat with
                | false => rfl
                | true => have := hiff.1 hh; omega) ?_
              clear good bad hiff
              unfold lp77_0
              refine rn (fA12 @c @hc' @z1 @hb' @hbi @c1 @d1 @c3 @d3 @c4 @d4 @d5) ?_
              simp [Za, lk]
        · have d3 : ¬ (48 : Int) ≤ (b.toNat : Int) := by omega
          have d5 : ((b.toNat : Int) == 95) = false := by simp only [beq_eq_false_iff_ne, ne_eq]; omega
          refine bad (by cases hh : isL b.toNat with
            | false => rfl
            | true => have := hiff.1 hh; omega) ?_
          clear good bad hiff
          unfold lp77_0
          refine rn (fA10 @c @hc' @z1 @hb' @hbi @c1 @d1 @c3 @d3 @d5) ?_
          simp [Za, lk]
    · exact ih i (by omega) hi hp
theorem run77 (s : ByteArray) (h : Zb) : E X 77 [.str s] h = some (.bool (nameV s), h) := by
  unfold nameV
  by_cases c1 : s.size < 1
  · have d1 : (s.size : Int) < 1 := by omega
    have e1 : ¬ 1 ≤ s.size := by omega
    rw [ZB (X := X) _ b77 _ rfl rfl]; unfold b77; exact rg (fA3 @c1 @d1 @e1)
  · have d1 : ¬ (s.size : Int) < 1 := by omega
    have e1 : 1 ≤ s.size := by omega
    by_cases c2 : 16 < s.size
    · have d2 : (16 : Int) < (s.size : Int) := by omega
      have e2 : ¬ s.size ≤ 16 := by omega
      rw [ZB (X := X) _ b77 _ rfl rfl]; unfold b77; exact rg (fA6 @c1 @d1 @e1 @c2 @d2 @e2)
    · have d2 : ¬ (16 : Int) < (s.size : Int) := by omega
      have e2 : s.size ≤ 16 := by omega
      have hlp := loop77 s (by omega) h s.size 0 (by omega) (by omega) (fun j hj => by omega)
      rw [show ((0 : Nat) : Int) = 0 from rfl] at hlp
      rcases hlp with ⟨ex, hc, ha⟩ | ⟨hc, ha⟩
      · rw [ha]
        rw [ZB (X := X) _ b77 _ rfl rfl]; unfold b77
        refine rn (fA4 @c1 @d1 @c2 @d2) ?_
        refine keG ?_
        rw [hc]
        refine rn trivial ?_
        exact re (fA2 @e1 @e2)
      · rw [ha]
        rw [ZB (X := X) _ b77 _ rfl rfl]; unfold b77
        refine rn (fA4 @c1 @d1 @c2 @d2) ?_
        refine keG ?_
        rw [hc]
        refine rn trivial ?_
        exact re (fA2 @e1 @e2)
theorem run78 {C : DV} {s : Sch} (hC : ∀ g, vw g 3 C = some (s.cols.map Cl.d)) (i : Int) (H : Zb) : E X 78 [Yq C s, .int .i64 i] H = some (.bool (ofV s i 0), H) := by
  by_cases c1 : 0 ≤ i
  · obtain ⟨p, rfl⟩ : ∃ p : Nat, i = p := ⟨i.toNat, by omega⟩
    by_cases c2 : p < s.cols.length
    · obtain ⟨c, hc⟩ : ∃ c, c = s.cols[p] := ⟨_, rfl⟩
      have hci : s.cols[p]? = some c := by rw [hc]; exact List.getElem?_eq_getElem c2
      have hc' := hc.symm
      have hv : ofV s p 0 = !c.nl := by
        unfold ofV getI
        rw [if_pos c1, Int.toNat_natCast, hci]
        simp
      rw [hv]
      clear hv hc
      obtain ⟨cols, k1, k2, k3, k4⟩ := s
      obtain ⟨xn, xk, xl⟩ := c
      simp only [Yq, Yl] at *
      have c2 : p < cols.length := c2
      have d2 : (p : Int) < (cols.length : Int) := by omega
      rw [ZB (X := X) _ b78 _ rfl rfl]; unfold b78; exact rg0 (fA6 @hC @c1 @c2 @d2 @hci @hc')
    · have d2 : ¬ (p : Int) < (s.cols.length : Int) := by omega
      have hv : ofV s p 0 = false := by unfold ofV; rw [getI_none (by omega)]
      rw [hv]
      obtain ⟨cols, k1, k2, k3, k4⟩ := s
      simp only [Yq, Yl] at *
      rw [ZB (X := X) _ b78 _ rfl rfl]; unfold b78; exact rg0 (fA4 @hC @c1 @c2 @d2)
  · have hv : ofV s i 0 = false := by unfold ofV; rw [getI_none (by omega)]
    rw [hv]
    obtain ⟨cols, k1, k2, k3, k4⟩ := s
    simp only [Yq, Yl] at *
    rw [ZB (X := X) _ b78 _ rfl rfl]; unfold b78; exact rg0 (fA2 @hC @c1)
/-- The number of the first that has a name, and who else has it. -/
theorem fidx_self {P : Cl → Bool} : ∀ {l : List Cl} {i j : Nat} {x : Cl}, l[i]? = some x → P x = true → ((∀ (k : Nat) y, k < i → l[k]? = some y → P y = false) → fidx P l j = ((j + i : Nat) : Int)) ∧ (∀ (k : Nat) y, k < i → l[k]? = some y → P y = true → fidx P l j ≠ ((j + i : Nat) : Int))
  | [], i, j, x, h, _ => by simp at h
  | z :: l, i, j, x, h, hx => by
    cases i with
    | zero =>
      simp at h; subst h
      refine ⟨fun _ => ?_, fun k y hk => by omega⟩
      rw [fidx, if_pos hx]; simp
    | succ i =>
      obtain ⟨h1, h2⟩ := fidx_self (i := i) (j := j + 1) (by simpa using h) hx
      refine ⟨fun hp => ?_, fun k y hk hy hy2 => ?_⟩
      · have hz := hp 0 z (by omega) rfl
        rw [fidx, hz]
        simp only [Bool.false_eq_true, if_false]
        rw [h1 (fun k y hk hy => hp (k + 1) y (by omega) (by simpa using hy))]
        omega
      · rw [fidx]
        by_cases hz : P z = true
        · rw [if_pos hz]; omega
        · rw [if_neg hz]
          cases k with
          | zero => simp at hy; subst hy; exact absurd hy2 hz
          | succ k =>
            have := h2 k y (by omega) (by simpa using hy) hy2
            omega
theorem loop50_1 {h : Zb} {Cd : DV} {s : Sch} {b b4 i : Nat} {c : Cl} (hC : ∀ g, vw g 3 Cd = some (s.cols.map Cl.d)) (hb : h[b]? = some (.box 24 (Yl Cd s))) (hb4 : h[b4]? = some (.box 61 c.d.cells)) (hl : s.cols.length ≤ 1000) (hi : i < s.cols.length) :
    ∀ (r k : Nat), i - k ≤ r → k ≤ i → (∀ (j : Nat) y, j < k → s.cols[j]? = some y → (y.nm == c.nm) = false) → (∃ ex, C X (.loop lp50_1) [(1, .ref b 0), (3, .int .i64 i), (4, .ref b4 0), (5, .int .i64 k)] h = some (.exit 2, (1, .ref b 0) :: (3, .int .i64 i) :: ex, h) ∧ (∀ (j : Nat) y, j < i → s.cols[j]? = some y → (y.nm == c.nm) = false)) ∨ (C X (.loop lp50_1) [(1, .ref b 0), (3, .int .i64 i), (4, .ref b4 0), (5, .int .i64 k)] h = some (.ret, [(2, .bool false)], h) ∧ ∃ (j : Nat) (y : Cl), j < i ∧ s.cols[j]? = some y ∧ (y.nm == c.nm) = true) := by
  intro r
  induction r with
  | zero =>
    intro k hk hki hp
    obtain rfl : k = i := by omega
    refine .inl ⟨[(4, .ref b4 0), (5, .int .i64 k), (57, .bool false)], ?_, hp⟩
    rw [Zc]
    unfold lp50_1
    refine rn trivial ?_
    rw [Zz]
    simp [Za, lk]
  | succ r ih =>
    intro k hk hki hp
    by_cases ck : k < i
    · obtain ⟨K, hK⟩ : ∃ K, K = k + 1 := ⟨_, rfl⟩
      have z1 : IntKind.i64.wrap ((k : Int) + 1) = (K : Int) := (by rw [wrap64 _ (by omega) (by omega)]; omega)
      have kl : k < s.cols.length := by omega
      obtain ⟨y, hy⟩ : ∃ y, y = s.cols[k] := ⟨_, rfl⟩
      have hyi : s.cols[k]? = some y := by rw [hy]; exact List.getElem?_eq_getElem kl
      have hy' := hy.symm
      cases hn : (y.nm == c.nm) with
      | false =>
        have hs : C X lp50_1 [(1, .ref b 0), (3, .int .i64 i), (4, .ref b4 0), (5, .int .i64 k)] h = some (.norm, [(1, .ref b 0), (3, .int .i64 i), (4, .ref b4 0), (5, .int .i64 K)], h) := by
          clear ih hp hy
          obtain ⟨cols, k1, k2, k3, k4⟩ := s
          obtain ⟨cn, ckk, cl⟩ := c
          obtain ⟨yn, yk, yl⟩ := y
          simp only [Yl, Cl.d, DV.cells] at *
          have kl : k < cols.length := kl
          unfold lp50_1
          refine rn0 (fA9 @ck @kl @z1 @hC @hb @hb4 @hy' @hyi @hn) ?_
          simp [Za, lk]
        rw [Zc, hs, ZI]
        refine ih K (by omega) (by omega) (fun j y2 hj hy2 => ?_)
        by_cases hjk : j = k
        · subst hjk
          rw [hyi] at hy2; injection hy2 with hy2; subst hy2; exact hn
        · exact hp j y2 (by omega) hy2
      | true =>
        right
        have hs : C X lp50_1 [(1, .ref b 0), (3, .int .i64 i), (4, .ref b4 0), (5, .int .i64 k)] h = some (.ret, [(2, .bool false)], h) := by
          clear ih hp hy
          obtain ⟨cols, k1, k2, k3, k4⟩ := s
          obtain ⟨cn, ckk, cl⟩ := c
          obtain ⟨yn, yk, yl⟩ := y
          simp only [Yl, Cl.d, DV.cells] at *
          have kl : k < cols.length := kl
          unfold lp50_1
          refine rn0 (fA9 @ck @kl @z1 @hC @hb @hb4 @hy' @hyi @hn) ?_
          simp [Za, lk]
        rw [Zc, hs, lp_ret]
        exact ⟨rfl, k, y, ck, hyi, hn⟩
    · exact ih k (by omega) hki hp
set_option maxHeartbeats 1000000 in
theorem body50 {h : Zb} {Cd : DV} {s : Sch} {b i I : Nat} {c : Cl} (hC : ∀ g, vw g 3 Cd = some (s.cols.map Cl.d)) (hb : h[b]? = some (.box 24 (Yl Cd s))) (hl : s.cols.length ≤ 1000) (hc : s.cols[i]? = some c) (z1 : IntKind.i64.wrap ((i : Int) + 1) = (I : Int)) :
    C X lp50_0 [(1, .ref b 0), (3, .int .i64 i)] h = some (if colOkV s i c = true then (.norm, [(1, .ref b 0), (3, .int .i64 I)], h ++ [.box 61 c.d.cells]) else (.ret, [(2, .bool false)], h ++ [.box 61 c.d.cells])) := by
  obtain ⟨ci, hc1⟩ := List.getElem?_eq_some_iff.1 hc
  have e39 := fun g => run77 c.nm g
  have hb2 : ∀ G, (h ++ G)[b]? = some (.box 24 (Yl Cd s)) := fun G => by rw [List.getElem?_append_left (List.getElem?_eq_some_iff.1 hb).1]; exact hb
  have hbc : (h ++ [HO.box 61 c.d.cells])[h.length]? = some (.box 61 c.d.cells) := by simp
  have hin := loop50_1 (h := h ++ [HO.box 61 c.d.cells]) hC (hb2 _) hbc hl ci i 0 (by omega) (by omega) (fun j y hj => by omega)
  rw [show ((0 : Nat) : Int) = 0 from rfl] at hin
  have hfs := fidx_self (P := fun x : Cl => x.nm == c.nm) (j := 0) hc ((beq_b _ _).2 rfl)
  rw [Nat.zero_add] at hfs
  have ci' : (i : Int) < (s.cols.length : Int) := by omega
  cases h1 : nameV c.nm
  · have hv : colOkV s i c = false := by simp [colOkV, h1]
    rw [hv, if_neg (by simp)]
    rw [h1] at e39
    clear hv h1 hin hfs
    obtain ⟨cn, ck, cl⟩ := c
    obtain ⟨cols, k1, k2, k3, k4⟩ := s
    simp only [Yq, Yl, Cl.d, DV.cells] at *
    have ci : i < cols.length := ci
    unfold lp50_0
    refine rn0 (fA9 @ci @ci' @z1 @hC @hc @hc1 @e39 @hb @hb2) ?_
    simp [Za, lk, DV.cells]
  rw [h1] at e39
  by_cases h2 : c.kd < 1
  · have hv : colOkV s i c = false := by
      have : ¬ 1 ≤ c.kd := by omega
      simp [colOkV, this]
    rw [hv, if_neg (by simp)]
    clear hv h1 hin hfs
    obtain ⟨cn, ck, cl⟩ := c
    obtain ⟨cols, k1, k2, k3, k4⟩ := s
    simp only [Yq, Yl, Cl.d, DV.cells] at *
    have ci : i < cols.length := ci
    unfold lp50_0
    refine rn0 (fA10 @ci @ci' @z1 @hC @hc @hc1 @e39 @hb @hb2 @h2) ?_
    simp [Za, lk, DV.cells]
  by_cases h3 : 3 < c.kd
  · have hv : colOkV s i c = false := by
      have : ¬ c.kd ≤ 3 := by omega
      simp [colOkV, this]
    rw [hv, if_neg (by simp)]
    clear hv h1 hin hfs
    obtain ⟨cn, ck, cl⟩ := c
    obtain ⟨cols, k1, k2, k3, k4⟩ := s
    simp only [Yq, Yl, Cl.d, DV.cells] at *
    have ci : i < cols.length := ci
    unfold lp50_0
    refine rn0 (fA11 @ci @ci' @z1 @hC @hc @hc1 @e39 @hb @hb2 @h2 @h3) ?_
    simp [Za, lk, DV.cells]
  have k1 : 1 ≤ c.kd := by omega
  have k3 : c.kd ≤ 3 := by omega
  rcases hin with ⟨ex, hlp, hno⟩ | ⟨hlp, j, y, hj, hy, hyn⟩
  · have hv : colOkV s i c = true := by
      simp only [colOkV, h1, k1, k3, decide_true, Bool.true_and, beq_iff_eq]
      exact hfs.1 hno
    rw [hv, if_pos rfl]
    clear hv h1 hfs hno
    obtain ⟨cn, ck, cl⟩ := c
    obtain ⟨cols, k1, k2, k3, k4⟩ := s
    simp only [Yq, Yl, Cl.d, DV.cells] at *
    have ci : i < cols.length := ci
    unfold lp50_0
    refine rn0 (fA11 @ci @ci' @z1 @hC @hc @hc1 @e39 @hb @hb2 @h2 @h3) ?_
    refine keG ?_
    rw [hlp]
    refine rn @z1 ?_
    simp [Za, lk, DV.cells]
  · have hv : colOkV s i c = false := by
      have := hfs.2 j y hj hy hyn
      simp only [colOkV, h1, k1, k3, decide_true, Bool.true_and, beq_eq_false_iff_ne]
      exact this
    rw [hv, if_neg (by simp)]
    clear hv h1 hfs
    obtain ⟨cn, ck, cl⟩ := c
    obtain ⟨cols, k1, k2, k3, k4⟩ := s
    simp only [Yq, Yl, Cl.d, DV.cells] at *
    have ci : i < cols.length := ci
    unfold lp50_0
    refine rn0 (fA11 @ci @ci' @z1 @hC @hc @hc1 @e39 @hb @hb2 @h2 @h3) ?_
    refine keG ?_
    rw [hlp]
    (repeat (first | rw [ZM] | rw [Zp (by simp [go_sem]; exact ⟨rfl, rfl⟩)] | rw [Yj (by simp [lk, Za, Od.v]; exact rfl)] | rw [Zx] | rw [Zw] | rw [Ya] | rw [Ys] | rw [Yg] | rw [Yr] | rw [Yi] | rw [Yh] | rw [ZZ] | rw [ZT] | rw [ZU] | rw [ZN (by decide)] | rw [ZS] | rw [ZK] | rw [ZL] | rw [ZH (by decide)] | rw [Yv] | rw [Yt (by simp [go_sem]; exact ⟨rfl, rfl⟩)] | rw [Yu (by simp [lk, Za, Od.v]; exact rfl)] | rw [Yp]))
theorem loop50 {Cd : DV} {s : Sch} {b : Nat} (hC : ∀ g, vw g 3 Cd = some (s.cols.map Cl.d)) (hl : s.cols.length ≤ 1000) :
    ∀ (k i : Nat) (h : Zb), s.cols.length - i ≤ k → i ≤ s.cols.length → h[b]? = some (.box 24 (Yl Cd s)) → (∃ ex G, C X (.loop lp50_0) [(1, .ref b 0), (3, .int .i64 i)] h = some (.exit 0, (1, .ref b 0) :: ex, h ++ G) ∧ colsV s (s.cols.drop i) i = true) ∨ (∃ G, C X (.loop lp50_0) [(1, .ref b 0), (3, .int .i64 i)] h = some (.ret, [(2, .bool false)], h ++ G) ∧ colsV s (s.cols.drop i) i = false) := by
  intro k
  induction k with
  | zero =>
    intro i h hk hi hb
    obtain rfl : i = s.cols.length := by omega
    refine .inl ⟨[(3, .int .i64 s.cols.length), (33, .bool false)], [], ?_, by simp [colsV]⟩
    obtain ⟨cols, k1, k2, k3, k4⟩ := s
    simp only [Yl] at *
    rw [Zc]
    unfold lp50_0
    refine rn0 (fA2 @hb @hC) ?_
    rw [Zz]
    simp [Za, lk]
  | succ k ih =>
    intro i h hk hi hb
    by_cases c : i < s.cols.length
    · obtain ⟨I, hI⟩ : ∃ I, I = i + 1 := ⟨_, rfl⟩
      have z1 : IntKind.i64.wrap ((i : Int) + 1) = (I : Int) := (by rw [wrap64 _ (by omega) (by omega)]; omega)
      obtain ⟨x, hx⟩ : ∃ x, x = s.cols[i] := ⟨_, rfl⟩
      have hxi : s.cols[i]? = some x := by rw [hx]; exact List.getElem?_eq_getElem c
      have hd : s.cols.drop i = x :: s.cols.drop I := by rw [List.drop_eq_getElem_cons c, ← hx, hI]
      have hbd := body50 hC hb hl hxi z1
      rw [hd, colsV, Zc, hbd]
      cases h0 : colOkV s i x
      · right
        rw [if_neg (by simp), lp_ret]
        exact ⟨_, rfl, rfl⟩
      · rw [if_pos rfl, ZI, ← hI, Bool.true_and]
        rcases ih I (h ++ [.box 61 x.d.cells]) (by omega) (by omega) (by rw [List.getElem?_append_left (List.getElem?_eq_some_iff.1 hb).1]; exact hb) with ⟨ex, G, h1, h2⟩ | ⟨G, h1, h2⟩
        · exact .inl ⟨ex, _, by rw [h1, List.append_assoc], h2⟩
        · exact .inr ⟨_, by rw [h1, List.append_assoc], h2⟩
    · exact ih i h (by omega) hi hb
theorem of_zero {s : Sch} {i : Int} (h : ofV s i 0 = true) : ∃ (p : Nat) (c : Cl), i = p ∧ getI s.cols i = some c ∧ s.cols[p]? = some c ∧ (∃ pl : p < s.cols.length, s.cols[p] = c) ∧ c.nl = false ∧ ∀ k, k ≠ 0 → ofV s i k = (c.kd == k) := by
  unfold ofV at h
  cases hg : getI s.cols i with
  | none => rw [hg] at h; cases h
  | some c =>
    rw [hg] at h
    obtain ⟨_, p, hp, h1, h2⟩ := has_some hg
    have hn : c.nl = false := by simpa using h
    refine ⟨p, c, hp, rfl, h1, h2, hn, fun k hk => ?_⟩
    unfold ofV
    rw [hg]
    have : (k == 0) = false := by simpa using hk
    simp [hn, this]
theorem of_false {s : Sch} {i k : Int} (h : ofV s i 0 = false) : ofV s i k = false := by
  unfold ofV at *
  cases hg : getI s.cols i with
  | none => rfl
  | some c =>
    rw [hg] at h
    have : c.nl = true := by simpa using h
    simp [this]
set_option maxHeartbeats 4000000 in
theorem run50 {Cd : DV} {s : Sch} (hC : ∀ g, vw g 3 Cd = some (s.cols.map Cl.d)) (hl : s.cols.length ≤ 1000) (H : Zb) : E X 50 [Yq Cd s] H = some (.bool (smayV s), H) := by
  by_cases c1 : s.cols.length < 1
  · have hv : smayV s = false := by
      have : ¬ 1 ≤ s.cols.length := by omega
      simp [smayV, this]
    rw [hv]
    have d1 : (s.cols.length : Int) < 1 := by omega
    clear hv
    obtain ⟨cols, k1, k2, k3, k4⟩ := s
    simp only [Yq, Yl] at *
    rw [ZB (X := X) _ b50 _ rfl rfl]; unfold b50; exact rg0 (fA3 @hC @c1 @d1)
  have d1 : ¬ (s.cols.length : Int) < 1 := by omega
  by_cases c2 : 8 < s.cols.length
  · have hv : smayV s = false := by
      have : ¬ s.cols.length ≤ 8 := by omega
      simp [smayV, this]
    rw [hv]
    have d2 : (8 : Int) < (s.cols.length : Int) := by omega
    clear hv
    obtain ⟨cols, k1, k2, k3, k4⟩ := s
    simp only [Yq, Yl] at *
    rw [ZB (X := X) _ b50 _ rfl rfl]; unfold b50; exact rg0 (fA5 @hC @c1 @d1 @c2 @d2)
  have d2 : ¬ (8 : Int) < (s.cols.length : Int) := by omega
  by_cases c3 : s.sort < -1
  · have hv : smayV s = false := by
      have : ¬ -1 ≤ s.sort := by omega
      simp [smayV, this]
    rw [hv]
    clear hv
    obtain ⟨cols, k1, k2, k3, k4⟩ := s
    simp only [Yq, Yl] at *
    rw [ZB (X := X) _ b50 _ rfl rfl]; unfold b50; exact rg0 (fA6 @hC @c1 @d1 @c2 @d2 @c3)
  by_cases c4 : (s.cols.length : Int) ≤ s.sort
  · have hv : smayV s = false := by
      have : ¬ s.sort < (s.cols.length : Int) := by omega
      simp [smayV, this]
    rw [hv]
    clear hv
    obtain ⟨cols, k1, k2, k3, k4⟩ := s
    simp only [Yq, Yl] at *
    rw [ZB (X := X) _ b50 _ rfl rfl]; unfold b50; exact rg0 (fA7 @hC @c1 @d1 @c2 @d2 @c3 @c4)
  have hm : smayV s = (colsV s s.cols 0 && keyedV s) := by
    have e1 : 1 ≤ s.cols.length := by omega
    have e2 : s.cols.length ≤ 8 := by omega
    have e3 : -1 ≤ s.sort := by omega
    have e4 : s.sort < (s.cols.length : Int) := by omega
    simp [smayV, e1, e2, e3, e4]
  rw [hm]
  have hfin : ∀ G (bb : Bool), fin H (H ++ [HO.box 24 (Yl Cd s)] ++ G) [.bool bb] = (.bool bb, H) := by
    intro G bb
    have ht : (H ++ [HO.box 24 (Yl Cd s)] ++ G).take H.length = H := by rw [List.append_assoc, List.take_append_of_le_length (Nat.le_refl _)]; exact List.take_length
    simp only [fin]
    rw [if_pos ht]
    simp [fz1, fz0]
  have e50 := fun i g => run78 hC i g
  rcases loop50 (b := H.length) hC hl s.cols.length 0 (H ++ [.box 24 (Yl Cd s)]) (by omega) (by omega) (by simp) with ⟨ex, G, hc, hf⟩ | ⟨G, hc, hf⟩
  · rw [List.drop_zero] at hf
    rw [show ((0 : Nat) : Int) = 0 from rfl] at hc
    rw [hf, Bool.true_and]
    have hb2 : (H ++ [HO.box 24 (Yl Cd s)] ++ G)[H.length]? = some (.box 24 (Yl Cd s)) := by rw [List.append_assoc]; simp
    have hfn := hfin G
    clear hfin
    generalize H ++ [HO.box 24 (Yl Cd s)] ++ G = h2 at *
    clear hf hm
    unfold keyedV
    by_cases p1 : s.key = -1
    · rw [if_pos p1]
      have p1' : (s.key == -1) = true := by simpa using p1
      clear e50
      obtain ⟨cols, k1, k2, k3, k4⟩ := s
      simp only [Yq, Yl] at *
      subst p1
      cases q1 : (k2 == -1) <;> cases q2 : (k3 == -1)
      all_goals
        rw [ZB (X := X) _ b50 _ rfl rfl]; unfold b50
        refine rn0 (fA7 @hC @c1 @d1 @c2 @d2 @c3 @c4) ?_
        refine keG ?_
        rw [hc]
        refine rn (fA3 @hb2 @q1 @q2) ?_
        rw [Zn]
        simp [ZY, lk, Za, hfn, q1, q2]
    rw [if_neg p1]
    have p1' : (s.key == -1) = false := by simpa using p1
    cases w1 : ofV s s.key 0
    · rw [Bool.false_and]
      have e1 := fun g => e50 s.key g
      rw [w1] at e1
      clear e50 w1
      obtain ⟨cols, k1, k2, k3, k4⟩ := s
      simp only [Yq, Yl] at *
      rw [ZB (X := X) _ b50 _ rfl rfl]; unfold b50
      refine rn0 (fA7 @hC @c1 @d1 @c2 @d2 @c3 @c4) ?_
      refine keG ?_
      rw [hc]
      refine rn (fA4 @hb2 @p1 @p1' @e1) ?_
      rw [Zn]
      simp [ZY, lk, Za, hfn]
    have e1 := fun g => e50 s.key g
    rw [w1] at e1
    cases w2 : ofV s s.cmp 0
    · rw [of_false w2]
      rw [Bool.false_and, Bool.and_false]
      have e2 := fun g => e50 s.cmp g
      rw [w2] at e2
      clear e50 w1 w2
      obtain ⟨cols, k1, k2, k3, k4⟩ := s
      simp only [Yq, Yl] at *
      rw [ZB (X := X) _ b50 _ rfl rfl]; unfold b50
      refine rn0 (fA7 @hC @c1 @d1 @c2 @d2 @c3 @c4) ?_
      refine keG ?_
      rw [hc]
      refine rn (fA5 @hb2 @p1 @p1' @e1 @e2) ?_
      rw [Zn]
      simp [ZY, lk, Za, hfn]
    have e2 := fun g => e50 s.cmp g
    rw [w2] at e2
    obtain ⟨p, c, hp, _, hpi, ⟨pl, hpe⟩, hnl, hok⟩ := of_zero w2
    rw [hok 1 (by omega)]
    have hp0 : (0 : Int) ≤ (p : Int) := by omega
    have hpl : (p : Int) < (s.cols.length : Int) := by omega
    cases q1 : (c.kd == 1)
    · rw [Bool.false_and, Bool.and_false]
      have q1' : (c.kd != 1) = true := by rw [bne, q1]; rfl
      clear e50 w1 w2 hok
      obtain ⟨cols, k1, k2, k3, k4⟩ := s
      obtain ⟨cn, ck, cl⟩ := c
      simp only [Yq, Yl] at *
      subst hp
      have pl : p < cols.length := pl
      rw [ZB (X := X) _ b50 _ rfl rfl]; unfold b50
      refine rn0 (fA7 @hC @c1 @d1 @c2 @d2 @c3 @c4) ?_
      refine keG ?_
      rw [hc]
      refine rn0 (fA12 @hb2 @p1 @p1' @e1 @e2 @hC @hpi @hpe @pl @hp0 @hpl @q1') ?_
      rw [Zn]
      simp [ZY, lk, Za, hfn]
    have q1' : (c.kd != 1) = false := by rw [bne, q1]; rfl
    rw [Bool.true_and, Bool.true_and]
    by_cases p3 : s.del = -1
    · have p3' : (s.del == -1) = true := by simpa using p3
      rw [p3', Bool.true_or]
      clear e50 w1 w2 hok
      obtain ⟨cols, k1, k2, k3, k4⟩ := s
      obtain ⟨cn, ck, cl⟩ := c
      simp only [Yq, Yl] at *
      subst hp
      have pl : p < cols.length := pl
      rw [ZB (X := X) _ b50 _ rfl rfl]; unfold b50
      refine rn0 (fA7 @hC @c1 @d1 @c2 @d2 @c3 @c4) ?_
      refine keG ?_
      rw [hc]
      refine rn0 (fA13 @hb2 @p1 @p1' @e1 @e2 @hC @hpi @hpe @pl @hp0 @hpl @q1' @p3') ?_
      rw [Zn]
      simp [ZY, lk, Za, hfn]
    have p3' : (s.del == -1) = false := by simpa using p3
    rw [p3', Bool.false_or]
    have e3 := fun g => e50 s.del g
    cases w3 : ofV s s.del 0
    · rw [of_false w3]
      rw [w3] at e3
      clear e50 w1 w2 w3 hok
      obtain ⟨cols, k1, k2, k3, k4⟩ := s
      obtain ⟨cn, ck, cl⟩ := c
      simp only [Yq, Yl] at *
      subst hp
      have pl : p < cols.length := pl
      rw [ZB (X := X) _ b50 _ rfl rfl]; unfold b50
      refine rn0 (fA7 @hC @c1 @d1 @c2 @d2 @c3 @c4) ?_
      refine keG ?_
      rw [hc]
      refine rn0 (fA14 @hb2 @p1 @p1' @e1 @e2 @e3 @hC @hpi @hpe @pl @hp0 @hpl @q1' @p3') ?_
      rw [Zn]
      simp [ZY, lk, Za, hfn]
    rw [w3] at e3
    obtain ⟨p', c', hp', _, hpi', ⟨pl', hpe'⟩, hnl', hok'⟩ := of_zero w3
    rw [hok' 3 (by omega)]
    have hp0' : (0 : Int) ≤ (p' : Int) := by omega
    have hpl' : (p' : Int) < (s.cols.length : Int) := by omega
    clear e50 w1 w2 w3 hok hok'
    obtain ⟨cols, k1, k2, k3, k4⟩ := s
    obtain ⟨cn, ck, cl⟩ := c
    obtain ⟨cn', ck', cl'⟩ := c'
    simp only [Yq, Yl] at *
    subst hp
    subst hp'
    have pl : p < cols.length := pl
    have pl' : p' < cols.length := pl'
    rw [ZB (X := X) _ b50 _ rfl rfl]; unfold b50
    refine rn0 (fA7 @hC @c1 @d1 @c2 @d2 @c3 @c4) ?_
    refine keG ?_
    rw [hc]
    refine rn0 (fA19 @hb2 @p1 @p1' @e1 @e2 @e3 @hC @hpi @hpe @pl @hp0 @hpl @hpi' @hpe' @pl' @hp0' @hpl' @q1' @p3') ?_
    rw [Zn]
    simp [ZY, lk, Za, hfn]
  · rw [List.drop_zero] at hf
    rw [show ((0 : Nat) : Int) = 0 from rfl] at hc
    rw [hf, Bool.false_and]
    have hfn := hfin G
    clear hfin
    generalize H ++ [HO.box 24 (Yl Cd s)] ++ G = h2 at *
    clear hf hm e50
    obtain ⟨cols, k1, k2, k3, k4⟩ := s
    simp only [Yq, Yl] at *
    rw [ZB (X := X) _ b50 _ rfl rfl]; unfold b50
    refine rn0 (fA7 @hC @c1 @d1 @c2 @d2 @c3 @c4) ?_
    refine keG ?_
    rw [hc]
    refine rn trivial ?_
    rw [Zn]
    simp [ZY, lk, Za, hfn]
end Go.Proofs.YtmbgfbomgbdjeaaGreatDoor
