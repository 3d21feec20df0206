/- Ideal runs. -/
import Derived.Test.YtmbgfbomgbdjeaaGreatDoorStep
import Derived.Test.YtmbgfbomgbdjeaaGreatDoorQryA
namespace Go.Proofs.YtmbgfbomgbdjeaaGreatDoor
attribute [local go_sem] ZK ZF ZE ZG Zs Zi Zp Zl Zn Ze Zf Zm Zt Zu ZH Zr Zj ZD Zz Zy ZW ZA Yo put lk Od.v Za Zg Zo aj Yd Ye Yc au eqk DV.isU DV.cells ae ZP Ya ZO Zq splice ZQ af ZX eqs bh bV bQ aV bS bg aU aZ bR aW bU aY bf aX bW bY bP YA YB
attribute [local go_sem ↓] Zk
set_option linter.unusedVariables false
set_option linter.unusedSimpArgs false
set_option maxRecDepth 10000
theorem Ls (n : Nat) : kL n = true ↔ (97 ≤ n ∧ n ≤ 122) ∨ (48 ≤ n ∧ n ≤ 57) ∨ n = 95 := by
 unfold kL
 simp only [Bool.or_eq_true, Bool.and_eq_true, decide_eq_true_eq, beq_iff_eq]
 omega
theorem Gu (s : ByteArray) (i : Nat) (h : i < s.size) {b : UInt8} (hb : s.data.toList[i]? = some b) (hp : ∀ j, j < i → gP s j = true) (hl : kL b.toNat = false) : jO s = false := by
 cases ha : jO s with
 | false => rfl
 | true =>
  have := (qP s).1 ha i h
  rw [nK hb, hl] at this
  cases this
set_option maxHeartbeats 1000000 in
theorem M5 (s : ByteArray) (hs : s.size ≤ 1000) (h : Zb) : ∀ (k i : Nat), s.size - i ≤ k → i ≤ s.size → (∀ j, j < i → gP s j = true) → (∃ ex, C X (.loop eA) [(0, .str s), (3, .int .i64 i)] h = some (.exit 0, (0, .str s) :: ex, h) ∧ jO s = true) ∨ (C X (.loop eA) [(0, .str s), (3, .int .i64 i)] h = some (.ret, [(2, .bool false)], h) ∧ jO s = false) := by
 intro k
 induction k with
 | zero =>
  intro i hk hi hp
  obtain rfl : i = s.size := by omega
  refine .inl ⟨[(3, .int .i64 s.size), (16, .bool false)], ?_, (qP s).2 hp⟩
  rw [Zc]
  unfold eA
  refine rn trivial ?_
  rw [Zx]
  simp [Za, lk]
 | succ k ih =>
  intro i hk hi hp
  by_cases c : i < s.size
  ·obtain ⟨I, hI⟩ : ∃ I, I = i + 1 := ⟨_, rfl⟩
   have z1 : IntKind.i64.wrap ((i : Int) + 1) = (I : Int) := wr
   have zP : i < s.data.toList.length := by rw [show s.data.toList.length = s.size by show s.data.toList.length = s.data.size; exact Array.length_toList]; exact c
   obtain ⟨b, hb⟩ : ∃ b, b = s.data.toList[i] := ⟨_, rfl⟩
   have vu : s.data.toList[i]? = some b := by rw [hb]; exact List.getElem?_eq_getElem zP
   have hb' := hb.symm
   have cH : (i : Int) < (s.size : Int) := by omega
   have hib : gP s i = kL b.toNat := nK vu
   have good : kL b.toNat = true → C X eA [(0, .str s), (3, .int .i64 i)] h = some (.norm, [(0, .str s), (3, .int .i64 I)], h) → (∃ ex, C X (.loop eA) [(0, .str s), (3, .int .i64 i)] h = some (.exit 0, (0, .str s) :: ex, h) ∧ jO s = true) ∨ (C X (.loop eA) [(0, .str s), (3, .int .i64 i)] h = some (.ret, [(2, .bool false)], h) ∧ jO s = false) := fun hg hs2 => by
    rw [Zc, hs2, ZB]
    refine ih I (by omega) (by omega) (fun j hj => ?_)
    by_cases h1 : j = i
    ·rw [h1, hib]; exact hg
    ·exact hp j (by omega)
   have bad : kL b.toNat = false → C X eA [(0, .str s), (3, .int .i64 i)] h = some (.ret, [(2, .bool false)], h) → (∃ ex, C X (.loop eA) [(0, .str s), (3, .int .i64 i)] h = some (.exit 0, (0, .str s) :: ex, h) ∧ jO s = true) ∨ (C X (.loop eA) [(0, .str s), (3, .int .i64 i)] h = some (.ret, [(2, .bool false)], h) ∧ jO s = false) := fun hg hs2 => by
    rw [Zc, hs2, Yw]
    exact .inr ⟨rfl, Gu s i c vu hp hg⟩
   have mD := Ls b.toNat
   clear ih hp hib
   by_cases c1 : 97 ≤ b.toNat
   ·have d1 : (97 : Int) ≤ (b.toNat : Int) := by omega
    by_cases c2 : b.toNat ≤ 122
    ·have d2 : (b.toNat : Int) ≤ 122 := by omega
     refine good (mD.2 (by omega)) ?_
     clear good bad mD
     unfold eA
     refine rn (gJ @c @cH @z1 @hb' @vu @c1 @d1 @c2 @d2) ?_
     simp [Za, lk]
    ·have d2 : ¬ (b.toNat : Int) ≤ 122 := by omega
     have c3 : 48 ≤ b.toNat := by omega
     have d3 : (48 : Int) ≤ (b.toNat : Int) := by omega
     have c4 : ¬ b.toNat ≤ 57 := by omega
     have d4 : ¬ (b.toNat : Int) ≤ 57 := by omega
     have d5 : ((b.toNat : Int) == 95) = false := by simp only [beq_eq_false_iff_ne, ne_eq]; omega
     refine bad (by cases hh : kL b.toNat with
      | false => rfl
      | true => have := mD.1 hh; omega) ?_
     clear good bad mD
     unfold eA
     refine rn (mF @c @cH @z1 @hb' @vu @c1 @d1 @c2 @d2 @c3 @d3 @c4 @d4 @d5) ?_
     simp [Za, lk]
   ·have d1 : ¬ (97 : Int) ≤ (b.toNat : Int) := by omega
    by_cases c3 : 48 ≤ b.toNat
    ·have d3 : (48 : Int) ≤ (b.toNat : Int) := by omega
     by_cases c4 : b.toNat ≤ 57
     ·have d4 : (b.toNat : Int) ≤ 57 := by omega
      refine good (mD.2 (by omega)) ?_
      clear good bad mD
      unfold eA
      refine rn (cP @c @cH @z1 @hb' @vu @c1 @d1 @c3 @d3 @c4 @d4) ?_
      simp [Za, lk]
     ·have d4 : ¬ (b.toNat : Int) ≤ 57 := by omega
      by_cases c5 : b.toNat = 95
      ·have d5 : ((b.toNat : Int) == 95) = true := by simp only [beq_iff_eq]; omega
       refine good (mD.2 (by omega)) ?_
       clear good bad mD
       clear c5
       unfold eA
       refine rn (dR @c @cH @z1 @hb' @vu @c1 @d1 @c3 @d3 @c4 @d4 @d5) ?_
       simp [Za, lk]
      ·have d5 : ((b.toNat : Int) == 95) = false := by simp only [beq_eq_false_iff_ne, ne_eq]; omega
       refine bad (by cases hh : kL b.toNat with
        | false => rfl
        | true => have := mD.1 hh; omega) ?_
       clear good bad mD
       unfold eA
       refine rn (dR @c @cH @z1 @hb' @vu @c1 @d1 @c3 @d3 @c4 @d4 @d5) ?_
       simp [Za, lk]
    ·have d3 : ¬ (48 : Int) ≤ (b.toNat : Int) := by omega
     have d5 : ((b.toNat : Int) == 95) = false := by simp only [beq_eq_false_iff_ne, ne_eq]; omega
     refine bad (by cases hh : kL b.toNat with
      | false => rfl
      | true => have := mD.1 hh; omega) ?_
     clear good bad mD
     unfold eA
     refine rn (ei @c @cH @z1 @hb' @vu @c1 @d1 @c3 @d3 @d5) ?_
     simp [Za, lk]
  ·exact ih i (by omega) hi hp
theorem Qr (s : ByteArray) (h : Zb) : E X 77 [.str s] h = some (.bool (jF s), h) := by
 unfold jF
 by_cases c1 : s.size < 1
 ·have d1 : (s.size : Int) < 1 := by omega
  have e1 : ¬ 1 ≤ s.size := by omega
  rw [Zv (X := X) _ vW _ rfl rfl]; unfold vW; exact rg (cg @c1 @d1 @e1)
 ·have d1 : ¬ (s.size : Int) < 1 := by omega
  have e1 : 1 ≤ s.size := by omega
  by_cases c2 : 16 < s.size
  ·have d2 : (16 : Int) < (s.size : Int) := by omega
   have e2 : ¬ s.size ≤ 16 := by omega
   rw [Zv (X := X) _ vW _ rfl rfl]; unfold vW; exact rg (eO @c1 @d1 @e1 @c2 @d2 @e2)
  ·have d2 : ¬ (16 : Int) < (s.size : Int) := by omega
   have e2 : s.size ≤ 16 := by omega
   have fW := M5 s (by omega) h s.size 0 (by omega) (by omega) (fun j hj => by omega)
   rw [show ((0 : Nat) : Int) = 0 from rfl] at fW
   rcases fW with ⟨ex, hc, ha⟩ | ⟨hc, ha⟩
   ·rw [ha]
    rw [Zv (X := X) _ vW _ rfl rfl]; unfold vW
    refine rn (df @c1 @d1 @c2 @d2) ?_
    refine Yy ?_
    rw [hc]
    refine rn trivial ?_
    exact re (aD @e1 @e2)
   ·rw [ha]
    rw [Zv (X := X) _ vW _ rfl rfl]; unfold vW
    refine rn (df @c1 @d1 @c2 @d2) ?_
    refine Yy ?_
    rw [hc]
    refine rn trivial ?_
    exact re (aD @e1 @e2)
theorem Qq {C : DV} {s : Sch} (hC : ∀ g, vw g 3 C = some (s.cols.map Cl.d)) (i : Int) (H : Zb) : E X 78 [Yl C s, .int .i64 i] H = some (.bool (eW s i 0), H) := by
 by_cases c1 : 0 ≤ i
 ·obtain ⟨p, rfl⟩ : ∃ p : Nat, i = p := ⟨i.toNat, by omega⟩
  by_cases c2 : p < s.cols.length
  ·obtain ⟨c, hc⟩ : ∃ c, c = s.cols[p] := ⟨_, rfl⟩
   have hci : s.cols[p]? = some c := by rw [hc]; exact List.getElem?_eq_getElem c2
   have cH := hc.symm
   have hv : eW s p 0 = !c.nl := by
    unfold eW pu
    rw [if_pos c1, Int.toNat_natCast, hci]
    simp
   rw [hv]
   clear hv hc
   obtain ⟨cols, k1, k2, k3, k4⟩ := s
   obtain ⟨xn, xk, xl⟩ := c
   simp only [Yl, Yi] at *
   have c2 : p < cols.length := c2
   have d2 : (p : Int) < (cols.length : Int) := by omega
   rw [Zv (X := X) _ AA _ rfl rfl]; unfold AA; exact d8 (eO @hC @c1 @c2 @d2 @hci @cH)
  ·have d2 : ¬ (p : Int) < (s.cols.length : Int) := by omega
   have hv : eW s p 0 = false := by unfold eW; rw [o8 (by omega)]
   rw [hv]
   obtain ⟨cols, k1, k2, k3, k4⟩ := s
   simp only [Yl, Yi] at *
   rw [Zv (X := X) _ AA _ rfl rfl]; unfold AA; exact d8 (df @hC @c1 @c2 @d2)
 ·have hv : eW s i 0 = false := by unfold eW; rw [o8 (by omega)]
  rw [hv]
  obtain ⟨cols, k1, k2, k3, k4⟩ := s
  simp only [Yl, Yi] at *
  rw [Zv (X := X) _ AA _ rfl rfl]; unfold AA; exact d8 (aD @hC @c1)
theorem yh {P : Cl → Bool} : ∀ {l : List Cl} {i j : Nat} {x : Cl}, l[i]? = some x → P x = true → ((∀ (k : Nat) y, k < i → l[k]? = some y → P y = false) → fidx P l j = ((j + i : Nat) : Int)) ∧ (∀ (k : Nat) y, k < i → l[k]? = some y → P y = true → fidx P l j ≠ ((j + i : Nat) : Int))
 | [], i, j, x, h, _ => by simp at h
 | z :: l, i, j, x, h, hx => by
  cases i with
  | zero =>
   simp at h; subst h
   refine ⟨fun _ => ?_, fun k y hk => by omega⟩
   rw [fidx, if_pos hx]; simp
  | succ i =>
   obtain ⟨h1, h2⟩ := yh (i := i) (j := j + 1) (by simpa using h) hx
   refine ⟨fun hp => ?_, fun k y hk hy hy2 => ?_⟩
   ·have hz := hp 0 z (by omega) rfl
    rw [fidx, hz]
    simp only [Bool.false_eq_true, if_false]
    rw [h1 (fun k y hk hy => hp (k + 1) y (by omega) (by simpa using hy))]
    omega
   ·rw [fidx]
    by_cases hz : P z = true
    ·rw [if_pos hz]; omega
    ·rw [if_neg hz]
     cases k with
     | zero => simp at hy; subst hy; exact absurd hy2 hz
     | succ k =>
      have := h2 k y (by omega) (by simpa using hy) hy2
      omega
theorem Hj {h : Zb} {Cd : DV} {s : Sch} {b b4 i : Nat} {c : Cl} (hC : ∀ g, vw g 3 Cd = some (s.cols.map Cl.d)) (hb : h[b]? = some (.box 24 (Yi Cd s))) (Ka : h[b4]? = some (.box 61 c.d.cells)) (hl : s.cols.length ≤ 1000) (hi : i < s.cols.length) :
 ∀ (r k : Nat), i - k ≤ r → k ≤ i → (∀ (j : Nat) y, j < k → s.cols[j]? = some y → (y.nm == c.nm) = false) → (∃ ex, C X (.loop lP) [(1, .ref b 0), (3, .int .i64 i), (4, .ref b4 0), (5, .int .i64 k)] h = some (.exit 2, (1, .ref b 0) :: (3, .int .i64 i) :: ex, h) ∧ (∀ (j : Nat) y, j < i → s.cols[j]? = some y → (y.nm == c.nm) = false)) ∨ (C X (.loop lP) [(1, .ref b 0), (3, .int .i64 i), (4, .ref b4 0), (5, .int .i64 k)] h = some (.ret, [(2, .bool false)], h) ∧ ∃ (j : Nat) (y : Cl), j < i ∧ s.cols[j]? = some y ∧ (y.nm == c.nm) = true) := by
 intro r
 induction r with
 | zero =>
  intro k hk qc hp
  obtain rfl : k = i := by omega
  refine .inl ⟨[(4, .ref b4 0), (5, .int .i64 k), (57, .bool false)], ?_, hp⟩
  rw [Zc]
  unfold lP
  refine rn trivial ?_
  rw [Zx]
  simp [Za, lk]
 | succ r ih =>
  intro k hk qc hp
  by_cases ck : k < i
  ·obtain ⟨K, hK⟩ : ∃ K, K = k + 1 := ⟨_, rfl⟩
   have z1 : IntKind.i64.wrap ((k : Int) + 1) = (K : Int) := wr
   have kl : k < s.cols.length := by omega
   obtain ⟨y, hy⟩ : ∃ y, y = s.cols[k] := ⟨_, rfl⟩
   have tQ : s.cols[k]? = some y := by rw [hy]; exact List.getElem?_eq_getElem kl
   have hy' := hy.symm
   cases hn : (y.nm == c.nm) with
   | false =>
    have hs : C X lP [(1, .ref b 0), (3, .int .i64 i), (4, .ref b4 0), (5, .int .i64 k)] h = some (.norm, [(1, .ref b 0), (3, .int .i64 i), (4, .ref b4 0), (5, .int .i64 K)], h) := by
     clear ih hp hy
     obtain ⟨cols, k1, k2, k3, k4⟩ := s
     obtain ⟨cn, VZ, cl⟩ := c
     obtain ⟨yn, yk, yl⟩ := y
     simp only [Yi, Cl.d, DV.cells] at *
     have kl : k < cols.length := kl
     unfold lP
     refine Yx (gJ @ck @kl @z1 @hC @hb @Ka @hy' @tQ @hn) ?_
     simp [Za, lk]
    rw [Zc, hs, ZB]
    refine ih K (by omega) (by omega) (fun j y2 hj hy2 => ?_)
    by_cases hjk : j = k
    ·subst hjk
     rw [tQ] at hy2; injection hy2 with hy2; subst hy2; exact hn
    ·exact hp j y2 (by omega) hy2
   | true =>
    right
    have hs : C X lP [(1, .ref b 0), (3, .int .i64 i), (4, .ref b4 0), (5, .int .i64 k)] h = some (.ret, [(2, .bool false)], h) := by
     clear ih hp hy
     obtain ⟨cols, k1, k2, k3, k4⟩ := s
     obtain ⟨cn, VZ, cl⟩ := c
     obtain ⟨yn, yk, yl⟩ := y
     simp only [Yi, Cl.d, DV.cells] at *
     have kl : k < cols.length := kl
     unfold lP
     refine Yx (gJ @ck @kl @z1 @hC @hb @Ka @hy' @tQ @hn) ?_
     simp [Za, lk]
    rw [Zc, hs, Yw]
    exact ⟨rfl, k, y, ck, tQ, hn⟩
  ·exact ih k (by omega) qc hp
set_option maxHeartbeats 1000000 in
theorem Pw {h : Zb} {Cd : DV} {s : Sch} {b i I : Nat} {c : Cl} (hC : ∀ g, vw g 3 Cd = some (s.cols.map Cl.d)) (hb : h[b]? = some (.box 24 (Yi Cd s))) (hl : s.cols.length ≤ 1000) (hc : s.cols[i]? = some c) (z1 : IntKind.i64.wrap ((i : Int) + 1) = (I : Int)) :
 C X ji [(1, .ref b 0), (3, .int .i64 i)] h = some (if bO s i c = true then (.norm, [(1, .ref b 0), (3, .int .i64 I)], h ++ [.box 61 c.d.cells]) else (.ret, [(2, .bool false)], h ++ [.box 61 c.d.cells])) := by
 obtain ⟨ci, hc1⟩ := List.getElem?_eq_some_iff.1 hc
 have kC := fun g => Qr c.nm g
 have bu : ∀ G, (h ++ G)[b]? = some (.box 24 (Yi Cd s)) := fun G => by rw [List.getElem?_append_left (List.getElem?_eq_some_iff.1 hb).1]; exact hb
 have hbc : (h ++ [HO.box 61 c.d.cells])[h.length]? = some (.box 61 c.d.cells) := by simp
 have hin := Hj (h := h ++ [HO.box 61 c.d.cells]) hC (bu _) hbc hl ci i 0 (by omega) (by omega) (fun j y hj => by omega)
 rw [show ((0 : Nat) : Int) = 0 from rfl] at hin
 have hfs := yh (P := fun x : Cl => x.nm == c.nm) (j := 0) hc ((Kv _ _).2 rfl)
 rw [Nat.zero_add] at hfs
 have FV : (i : Int) < (s.cols.length : Int) := by omega
 cases h1 : jF c.nm
 ·have hv : bO s i c = false := by simp [bO, h1]
  rw [hv, if_neg (by simp)]
  rw [h1] at kC
  clear hv h1 hin hfs
  obtain ⟨cn, ck, cl⟩ := c
  obtain ⟨cols, k1, k2, k3, k4⟩ := s
  simp only [Yl, Yi, Cl.d, DV.cells] at *
  have ci : i < cols.length := ci
  unfold ji
  refine Yx (gJ @ci @FV @z1 @hC @hc @hc1 @kC @hb @bu) ?_
  simp [Za, lk, DV.cells]
 rw [h1] at kC
 by_cases h2 : c.kd < 1
 ·have hv : bO s i c = false := by
   have : ¬ 1 ≤ c.kd := by omega
   simp [bO, this]
  rw [hv, if_neg (by simp)]
  clear hv h1 hin hfs
  obtain ⟨cn, ck, cl⟩ := c
  obtain ⟨cols, k1, k2, k3, k4⟩ := s
  simp only [Yl, Yi, Cl.d, DV.cells] at *
  have ci : i < cols.length := ci
  unfold ji
  refine Yx (ei @ci @FV @z1 @hC @hc @hc1 @kC @hb @bu @h2) ?_
  simp [Za, lk, DV.cells]
 by_cases h3 : 3 < c.kd
 ·have hv : bO s i c = false := by
   have : ¬ c.kd ≤ 3 := by omega
   simp [bO, this]
  rw [hv, if_neg (by simp)]
  clear hv h1 hin hfs
  obtain ⟨cn, ck, cl⟩ := c
  obtain ⟨cols, k1, k2, k3, k4⟩ := s
  simp only [Yl, Yi, Cl.d, DV.cells] at *
  have ci : i < cols.length := ci
  unfold ji
  refine Yx (cP @ci @FV @z1 @hC @hc @hc1 @kC @hb @bu @h2 @h3) ?_
  simp [Za, lk, DV.cells]
 have k1 : 1 ≤ c.kd := by omega
 have k3 : c.kd ≤ 3 := by omega
 rcases hin with ⟨ex, fW, hno⟩ | ⟨fW, j, y, hj, hy, UK⟩
 ·have hv : bO s i c = true := by
   simp only [bO, h1, k1, k3, decide_true, Bool.true_and, beq_iff_eq]
   exact hfs.1 hno
  rw [hv, if_pos rfl]
  clear hv h1 hfs hno
  obtain ⟨cn, ck, cl⟩ := c
  obtain ⟨cols, k1, k2, k3, k4⟩ := s
  simp only [Yl, Yi, Cl.d, DV.cells] at *
  have ci : i < cols.length := ci
  unfold ji
  refine Yx (cP @ci @FV @z1 @hC @hc @hc1 @kC @hb @bu @h2 @h3) ?_
  refine Yy ?_
  rw [fW]
  refine rn @z1 ?_
  simp [Za, lk, DV.cells]
 ·have hv : bO s i c = false := by
   have := hfs.2 j y hj hy UK
   simp only [bO, h1, k1, k3, decide_true, Bool.true_and, beq_eq_false_iff_ne]
   exact this
  rw [hv, if_neg (by simp)]
  clear hv h1 hfs
  obtain ⟨cn, ck, cl⟩ := c
  obtain ⟨cols, k1, k2, k3, k4⟩ := s
  simp only [Yl, Yi, Cl.d, DV.cells] at *
  have ci : i < cols.length := ci
  unfold ji
  refine Yx (cP @ci @FV @z1 @hC @hc @hc1 @kC @hb @bu @h2 @h3) ?_
  refine Yy ?_
  rw [fW]
  (repeat (first | rw [ZN] | rw [Zw (by simp [go_sem]; exact ⟨rfl, rfl⟩)] | rw [Yj (by simp [lk, Za, Od.v]; exact rfl)] | rw [Zz] | rw [Zy] | rw [Yb] | rw [Ys] | rw [Yf] | rw [Yr] | rw [Yh] | rw [Yg] | rw [ZY] | rw [ZT] | rw [ZU] | rw [ZM (by decide)] | rw [ZR] | rw [ZJ] | rw [ZL] | rw [ZI (by decide)] | rw [Yv] | rw [Yt (by simp [go_sem]; exact ⟨rfl, rfl⟩)] | rw [Yu (by simp [lk, Za, Od.v]; exact rfl)] | rw [Yq]))
theorem Ng {Cd : DV} {s : Sch} {b : Nat} (hC : ∀ g, vw g 3 Cd = some (s.cols.map Cl.d)) (hl : s.cols.length ≤ 1000) :
 ∀ (k i : Nat) (h : Zb), s.cols.length - i ≤ k → i ≤ s.cols.length → h[b]? = some (.box 24 (Yi Cd s)) → (∃ ex G, C X (.loop ji) [(1, .ref b 0), (3, .int .i64 i)] h = some (.exit 0, (1, .ref b 0) :: ex, h ++ G) ∧ kF s (s.cols.drop i) i = true) ∨ (∃ G, C X (.loop ji) [(1, .ref b 0), (3, .int .i64 i)] h = some (.ret, [(2, .bool false)], h ++ G) ∧ kF s (s.cols.drop i) i = false) := by
 intro k
 induction k with
 | zero =>
  intro i h hk hi hb
  obtain rfl : i = s.cols.length := by omega
  refine .inl ⟨[(3, .int .i64 s.cols.length), (33, .bool false)], [], ?_, by simp [kF]⟩
  obtain ⟨cols, k1, k2, k3, k4⟩ := s
  simp only [Yi] at *
  rw [Zc]
  unfold ji
  refine Yx (aD @hb @hC) ?_
  rw [Zx]
  simp [Za, lk]
 | succ k ih =>
  intro i h hk hi hb
  by_cases c : i < s.cols.length
  ·obtain ⟨I, hI⟩ : ∃ I, I = i + 1 := ⟨_, rfl⟩
   have z1 : IntKind.i64.wrap ((i : Int) + 1) = (I : Int) := wr
   obtain ⟨x, hx⟩ : ∃ x, x = s.cols[i] := ⟨_, rfl⟩
   have bN : s.cols[i]? = some x := by rw [hx]; exact List.getElem?_eq_getElem c
   have hd : s.cols.drop i = x :: s.cols.drop I := by rw [List.drop_eq_getElem_cons c, ← hx, hI]
   have hbd := Pw hC hb hl bN z1
   rw [hd, kF, Zc, hbd]
   cases h0 : bO s i x
   ·right
    rw [if_neg (by simp), Yw]
    exact ⟨_, rfl, rfl⟩
   ·rw [if_pos rfl, ZB, ← hI, Bool.true_and]
    rcases ih I (h ++ [.box 61 x.d.cells]) (by omega) (by omega) (by rw [List.getElem?_append_left (List.getElem?_eq_some_iff.1 hb).1]; exact hb) with ⟨ex, G, h1, h2⟩ | ⟨G, h1, h2⟩
    ·exact .inl ⟨ex, _, by rw [h1, List.append_assoc], h2⟩
    ·exact .inr ⟨_, by rw [h1, List.append_assoc], h2⟩
  ·exact ih i h (by omega) hi hb
theorem Bq {s : Sch} {i : Int} (h : eW s i 0 = true) : ∃ (p : Nat) (c : Cl), i = p ∧ pu s.cols i = some c ∧ s.cols[p]? = some c ∧ (∃ pl : p < s.cols.length, s.cols[p] = c) ∧ c.nl = false ∧ ∀ k, k ≠ 0 → eW s i k = (c.kd == k) := by
 unfold eW at h
 cases hg : pu s.cols i with
 | none => rw [hg] at h; cases h
 | some c =>
  rw [hg] at h
  obtain ⟨_, p, hp, h1, h2⟩ := HV hg
  have hn : c.nl = false := by simpa using h
  refine ⟨p, c, hp, rfl, h1, h2, hn, fun k hk => ?_⟩
  unfold eW
  rw [hg]
  have : (k == 0) = false := by simpa using hk
  simp [hn, this]
theorem zB {s : Sch} {i k : Int} (h : eW s i 0 = false) : eW s i k = false := by
 unfold eW at *
 cases hg : pu s.cols i with
 | none => rfl
 | some c =>
  rw [hg] at h
  have : c.nl = true := by simpa using h
  simp [this]
set_option maxHeartbeats 4000000 in
theorem JD {Cd : DV} {s : Sch} (hC : ∀ g, vw g 3 Cd = some (s.cols.map Cl.d)) (hl : s.cols.length ≤ 1000) (H : Zb) : E X 50 [Yl Cd s] H = some (.bool (cm s), H) := by
 by_cases c1 : s.cols.length < 1
 ·have hv : cm s = false := by
   have : ¬ 1 ≤ s.cols.length := by omega
   simp [cm, this]
  rw [hv]
  have d1 : (s.cols.length : Int) < 1 := by omega
  clear hv
  obtain ⟨cols, k1, k2, k3, k4⟩ := s
  simp only [Yl, Yi] at *
  rw [Zv (X := X) _ gX _ rfl rfl]; unfold gX; exact d8 (cg @hC @c1 @d1)
 have d1 : ¬ (s.cols.length : Int) < 1 := by omega
 by_cases c2 : 8 < s.cols.length
 ·have hv : cm s = false := by
   have : ¬ s.cols.length ≤ 8 := by omega
   simp [cm, this]
  rw [hv]
  have d2 : (8 : Int) < (s.cols.length : Int) := by omega
  clear hv
  obtain ⟨cols, k1, k2, k3, k4⟩ := s
  simp only [Yl, Yi] at *
  rw [Zv (X := X) _ gX _ rfl rfl]; unfold gX; exact d8 (eP @hC @c1 @d1 @c2 @d2)
 have d2 : ¬ (8 : Int) < (s.cols.length : Int) := by omega
 by_cases c3 : s.sort < -1
 ·have hv : cm s = false := by
   have : ¬ -1 ≤ s.sort := by omega
   simp [cm, this]
  rw [hv]
  clear hv
  obtain ⟨cols, k1, k2, k3, k4⟩ := s
  simp only [Yl, Yi] at *
  rw [Zv (X := X) _ gX _ rfl rfl]; unfold gX; exact d8 (eO @hC @c1 @d1 @c2 @d2 @c3)
 by_cases c4 : (s.cols.length : Int) ≤ s.sort
 ·have hv : cm s = false := by
   have : ¬ s.sort < (s.cols.length : Int) := by omega
   simp [cm, this]
  rw [hv]
  clear hv
  obtain ⟨cols, k1, k2, k3, k4⟩ := s
  simp only [Yl, Yi] at *
  rw [Zv (X := X) _ gX _ rfl rfl]; unfold gX; exact d8 (fR @hC @c1 @d1 @c2 @d2 @c3 @c4)
 have hm : cm s = (kF s s.cols 0 && og s) := by
  have e1 : 1 ≤ s.cols.length := by omega
  have e2 : s.cols.length ≤ 8 := by omega
  have e3 : -1 ≤ s.sort := by omega
  have e4 : s.sort < (s.cols.length : Int) := by omega
  simp [cm, e1, e2, e3, e4]
 rw [hm]
 have aA : ∀ G (bb : Bool), fin H (H ++ [HO.box 24 (Yi Cd s)] ++ G) [.bool bb] = (.bool bb, H) := by
  intro G bb
  have ht : (H ++ [HO.box 24 (Yi Cd s)] ++ G).take H.length = H := by rw [List.append_assoc, List.take_append_of_le_length (Nat.le_refl _)]; exact List.take_length
  simp only [fin]
  rw [if_pos ht]
  simp [aH, aJ]
 have gW := fun i g => Qq hC i g
 rcases Ng (b := H.length) hC hl s.cols.length 0 (H ++ [.box 24 (Yi Cd s)]) (by omega) (by omega) (by simp) with ⟨ex, G, hc, hf⟩ | ⟨G, hc, hf⟩
 ·rw [List.drop_zero] at hf
  rw [show ((0 : Nat) : Int) = 0 from rfl] at hc
  rw [hf, Bool.true_and]
  have bu : (H ++ [HO.box 24 (Yi Cd s)] ++ G)[H.length]? = some (.box 24 (Yi Cd s)) := by rw [List.append_assoc]; simp
  have hfn := aA G
  clear aA
  generalize H ++ [HO.box 24 (Yi Cd s)] ++ G = h2 at *
  clear hf hm
  unfold og
  by_cases p1 : s.key = -1
  ·rw [if_pos p1]
   have zx : (s.key == -1) = true := by simpa using p1
   clear gW
   obtain ⟨cols, k1, k2, k3, k4⟩ := s
   simp only [Yl, Yi] at *
   subst p1
   cases q1 : (k2 == -1) <;> cases q2 : (k3 == -1)
   all_goals
    rw [Zv (X := X) _ gX _ rfl rfl]; unfold gX
    refine Yx (fR @hC @c1 @d1 @c2 @d2 @c3 @c4) ?_
    refine Yy ?_
    rw [hc]
    refine rn (cg @bu @q1 @q2) ?_
    rw [Zh]
    simp [ZV, lk, Za, hfn, q1, q2]
  rw [if_neg p1]
  have zx : (s.key == -1) = false := by simpa using p1
  cases w1 : eW s s.key 0
  ·rw [Bool.false_and]
   have e1 := fun g => gW s.key g
   rw [w1] at e1
   clear gW w1
   obtain ⟨cols, k1, k2, k3, k4⟩ := s
   simp only [Yl, Yi] at *
   rw [Zv (X := X) _ gX _ rfl rfl]; unfold gX
   refine Yx (fR @hC @c1 @d1 @c2 @d2 @c3 @c4) ?_
   refine Yy ?_
   rw [hc]
   refine rn (df @bu @p1 @zx @e1) ?_
   rw [Zh]
   simp [ZV, lk, Za, hfn]
  have e1 := fun g => gW s.key g
  rw [w1] at e1
  cases w2 : eW s s.cmp 0
  ·rw [zB w2]
   rw [Bool.false_and, Bool.and_false]
   have e2 := fun g => gW s.cmp g
   rw [w2] at e2
   clear gW w1 w2
   obtain ⟨cols, k1, k2, k3, k4⟩ := s
   simp only [Yl, Yi] at *
   rw [Zv (X := X) _ gX _ rfl rfl]; unfold gX
   refine Yx (fR @hC @c1 @d1 @c2 @d2 @c3 @c4) ?_
   refine Yy ?_
   rw [hc]
   refine rn (eP @bu @p1 @zx @e1 @e2) ?_
   rw [Zh]
   simp [ZV, lk, Za, hfn]
  have e2 := fun g => gW s.cmp g
  rw [w2] at e2
  obtain ⟨p, c, hp, _, hpi, ⟨pl, hpe⟩, hnl, hok⟩ := Bq w2
  rw [hok 1 (by omega)]
  have JZ : (0 : Int) ≤ (p : Int) := by omega
  have hpl : (p : Int) < (s.cols.length : Int) := by omega
  cases q1 : (c.kd == 1)
  ·rw [Bool.false_and, Bool.and_false]
   have rI : (c.kd != 1) = true := by rw [bne, q1]; rfl
   clear gW w1 w2 hok
   obtain ⟨cols, k1, k2, k3, k4⟩ := s
   obtain ⟨cn, ck, cl⟩ := c
   simp only [Yl, Yi] at *
   subst hp
   have pl : p < cols.length := pl
   rw [Zv (X := X) _ gX _ rfl rfl]; unfold gX
   refine Yx (fR @hC @c1 @d1 @c2 @d2 @c3 @c4) ?_
   refine Yy ?_
   rw [hc]
   refine Yx (dR @bu @p1 @zx @e1 @e2 @hC @hpi @hpe @pl @JZ @hpl @rI) ?_
   rw [Zh]
   simp [ZV, lk, Za, hfn]
  have rI : (c.kd != 1) = false := by rw [bne, q1]; rfl
  rw [Bool.true_and, Bool.true_and]
  by_cases p3 : s.del = -1
  ·have Bo : (s.del == -1) = true := by simpa using p3
   rw [Bo, Bool.true_or]
   clear gW w1 w2 hok
   obtain ⟨cols, k1, k2, k3, k4⟩ := s
   obtain ⟨cn, ck, cl⟩ := c
   simp only [Yl, Yi] at *
   subst hp
   have pl : p < cols.length := pl
   rw [Zv (X := X) _ gX _ rfl rfl]; unfold gX
   refine Yx (fR @hC @c1 @d1 @c2 @d2 @c3 @c4) ?_
   refine Yy ?_
   rw [hc]
   refine Yx (ja @bu @p1 @zx @e1 @e2 @hC @hpi @hpe @pl @JZ @hpl @rI @Bo) ?_
   rw [Zh]
   simp [ZV, lk, Za, hfn]
  have Bo : (s.del == -1) = false := by simpa using p3
  rw [Bo, Bool.false_or]
  have e3 := fun g => gW s.del g
  cases w3 : eW s s.del 0
  ·rw [zB w3]
   rw [w3] at e3
   clear gW w1 w2 w3 hok
   obtain ⟨cols, k1, k2, k3, k4⟩ := s
   obtain ⟨cn, ck, cl⟩ := c
   simp only [Yl, Yi] at *
   subst hp
   have pl : p < cols.length := pl
   rw [Zv (X := X) _ gX _ rfl rfl]; unfold gX
   refine Yx (fR @hC @c1 @d1 @c2 @d2 @c3 @c4) ?_
   refine Yy ?_
   rw [hc]
   refine Yx (mF @bu @p1 @zx @e1 @e2 @e3 @hC @hpi @hpe @pl @JZ @hpl @rI @Bo) ?_
   rw [Zh]
   simp [ZV, lk, Za, hfn]
  rw [w3] at e3
  obtain ⟨p', c', hp', _, TC, ⟨MQ, TD⟩, Wa, NV⟩ := Bq w3
  rw [NV 3 (by omega)]
  have TF : (0 : Int) ≤ (p' : Int) := by omega
  have HG : (p' : Int) < (s.cols.length : Int) := by omega
  clear gW w1 w2 w3 hok NV
  obtain ⟨cols, k1, k2, k3, k4⟩ := s
  obtain ⟨cn, ck, cl⟩ := c
  obtain ⟨Wy, Wz, cl'⟩ := c'
  simp only [Yl, Yi] at *
  subst hp
  subst hp'
  have pl : p < cols.length := pl
  have MQ : p' < cols.length := MQ
  rw [Zv (X := X) _ gX _ rfl rfl]; unfold gX
  refine Yx (fR @hC @c1 @d1 @c2 @d2 @c3 @c4) ?_
  refine Yy ?_
  rw [hc]
  refine Yx (qI @bu @p1 @zx @e1 @e2 @e3 @hC @hpi @hpe @pl @JZ @hpl @TC @TD @MQ @TF @HG @rI @Bo) ?_
  rw [Zh]
  simp [ZV, lk, Za, hfn]
 ·rw [List.drop_zero] at hf
  rw [show ((0 : Nat) : Int) = 0 from rfl] at hc
  rw [hf, Bool.false_and]
  have hfn := aA G
  clear aA
  generalize H ++ [HO.box 24 (Yi Cd s)] ++ G = h2 at *
  clear hf hm gW
  obtain ⟨cols, k1, k2, k3, k4⟩ := s
  simp only [Yl, Yi] at *
  rw [Zv (X := X) _ gX _ rfl rfl]; unfold gX
  refine Yx (fR @hC @c1 @d1 @c2 @d2 @c3 @c4) ?_
  refine Yy ?_
  rw [hc]
  refine rn trivial ?_
  rw [Zh]
  simp [ZV, lk, Za, hfn]
end Go.Proofs.YtmbgfbomgbdjeaaGreatDoor
