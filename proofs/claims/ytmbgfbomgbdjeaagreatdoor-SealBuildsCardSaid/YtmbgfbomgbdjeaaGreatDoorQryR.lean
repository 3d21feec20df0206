/- Ideal runs. -/
import Derived.Test.YtmbgfbomgbdjeaaGreatDoorStep
import Derived.Test.YtmbgfbomgbdjeaaGreatDoorQryA
namespace Go.Proofs.YtmbgfbomgbdjeaaGreatDoor
attribute [local go_sem] ZN ZG ZF ZH Zt Zh Zp Zk Zm Ze Zf Zl Zu Zv ZI Zs Zi ZE Zy Zx ZX ZA Yp put lk Od.v Za Zg Zo ax Yg Yh Yd ay eqk DV.isU DV.cells ae ZO Yb ZP Zr splice ZR af ZY eqs bJ cr bY bz cg bH bw bF bZ bA cm bE bG bC cu cw bW Yx Yy
attribute [local go_sem ↓] Zj
set_option linter.unusedVariables false
set_option linter.unusedSimpArgs false
set_option maxRecDepth 10000
theorem LU (n : Nat) : kH n = true ↔ (97 ≤ n ∧ n ≤ 122) ∨ (48 ≤ n ∧ n ≤ 57) ∨ n = 95 := by
 unfold kH
 simp only [Bool.or_eq_true, Bool.and_eq_true, decide_eq_true_eq, beq_iff_eq]
 omega
theorem G8 (s : ByteArray) (i : Nat) (h : i < s.size) {b : UInt8} (hb : s.data.toList[i]? = some b) (hp : ∀ j, j < i → gE s j = true) (hl : kH b.toNat = false) : jG s = false := by
 cases ha : jG s with
 | false => rfl
 | true =>
  have := (qH s).1 ha i h
  rw [nJ hb, hl] at this
  cases this
set_option maxHeartbeats 1000000 in
theorem Ny (s : ByteArray) (hs : s.size ≤ 1000) (h : Zb) : ∀ (k i : Nat), s.size - i ≤ k → i ≤ s.size → (∀ j, j < i → gE s j = true) → (∃ ex, C X (.loop eC) [(0, .str s), (3, .int .i64 i)] h = some (.exit 0, (0, .str s) :: ex, h) ∧ jG s = true) ∨ (C X (.loop eC) [(0, .str s), (3, .int .i64 i)] h = some (.ret, [(2, .bool false)], h) ∧ jG s = false) := by
 intro k
 induction k with
 | zero =>
  intro i hk hi hp
  obtain rfl : i = s.size := by omega
  refine .inl ⟨[(3, .int .i64 s.size), (16, .bool false)], ?_, (qH s).2 hp⟩
  rw [Zc]
  unfold eC
  refine rn trivial ?_
  rw [Zw]
  simp [Za, lk]
 | succ k ih =>
  intro i hk hi hp
  by_cases c : i < s.size
  ·obtain ⟨I, hI⟩ : ∃ I, I = i + 1 := ⟨_, rfl⟩
   have z1 : IntKind.i64.wrap ((i : Int) + 1) = (I : Int) := wr
   have Ab : i < s.data.toList.length := by rw [show s.data.toList.length = s.size by show s.data.toList.length = s.data.size; exact Array.length_toList]; exact c
   obtain ⟨b, hb⟩ : ∃ b, b = s.data.toList[i] := ⟨_, rfl⟩
   have vZ : s.data.toList[i]? = some b := by rw [hb]; exact List.getElem?_eq_getElem Ab
   have hb' := hb.symm
   have cW : (i : Int) < (s.size : Int) := by omega
   have hib : gE s i = kH b.toNat := nJ vZ
   have good : kH b.toNat = true → C X eC [(0, .str s), (3, .int .i64 i)] h = some (.norm, [(0, .str s), (3, .int .i64 I)], h) → (∃ ex, C X (.loop eC) [(0, .str s), (3, .int .i64 i)] h = some (.exit 0, (0, .str s) :: ex, h) ∧ jG s = true) ∨ (C X (.loop eC) [(0, .str s), (3, .int .i64 i)] h = some (.ret, [(2, .bool false)], h) ∧ jG s = false) := fun hg hs2 => by
    rw [Zc, hs2, ZB]
    refine ih I (by omega) (by omega) (fun j hj => ?_)
    by_cases h1 : j = i
    ·rw [h1, hib]; exact hg
    ·exact hp j (by omega)
   have bad : kH b.toNat = false → C X eC [(0, .str s), (3, .int .i64 i)] h = some (.ret, [(2, .bool false)], h) → (∃ ex, C X (.loop eC) [(0, .str s), (3, .int .i64 i)] h = some (.exit 0, (0, .str s) :: ex, h) ∧ jG s = true) ∨ (C X (.loop eC) [(0, .str s), (3, .int .i64 i)] h = some (.ret, [(2, .bool false)], h) ∧ jG s = false) := fun hg hs2 => by
    rw [Zc, hs2, aR]
    exact .inr ⟨rfl, G8 s i c vZ hp hg⟩
   have mr := LU b.toNat
   clear ih hp hib
   by_cases c1 : 97 ≤ b.toNat
   ·have d1 : (97 : Int) ≤ (b.toNat : Int) := by omega
    by_cases c2 : b.toNat ≤ 122
    ·have d2 : (b.toNat : Int) ≤ 122 := by omega
     refine good (mr.2 (by omega)) ?_
     clear good bad mr
     unfold eC
     refine rn (gI @c @cW @z1 @hb' @vZ @c1 @d1 @c2 @d2) ?_
     simp [Za, lk]
    ·have d2 : ¬ (b.toNat : Int) ≤ 122 := by omega
     have c3 : 48 ≤ b.toNat := by omega
     have d3 : (48 : Int) ≤ (b.toNat : Int) := by omega
     have c4 : ¬ b.toNat ≤ 57 := by omega
     have d4 : ¬ (b.toNat : Int) ≤ 57 := by omega
     have d5 : ((b.toNat : Int) == 95) = false := by simp only [beq_eq_false_iff_ne, ne_eq]; omega
     refine bad (by cases hh : kH b.toNat with
      | false => rfl
      | true => have := mr.1 hh; omega) ?_
     clear good bad mr
     unfold eC
     refine rn (mC @c @cW @z1 @hb' @vZ @c1 @d1 @c2 @d2 @c3 @d3 @c4 @d4 @d5) ?_
     simp [Za, lk]
   ·have d1 : ¬ (97 : Int) ≤ (b.toNat : Int) := by omega
    by_cases c3 : 48 ≤ b.toNat
    ·have d3 : (48 : Int) ≤ (b.toNat : Int) := by omega
     by_cases c4 : b.toNat ≤ 57
     ·have d4 : (b.toNat : Int) ≤ 57 := by omega
      refine good (mr.2 (by omega)) ?_
      clear good bad mr
      unfold eC
      refine rn (dK @c @cW @z1 @hb' @vZ @c1 @d1 @c3 @d3 @c4 @d4) ?_
      simp [Za, lk]
     ·have d4 : ¬ (b.toNat : Int) ≤ 57 := by omega
      by_cases c5 : b.toNat = 95
      ·have d5 : ((b.toNat : Int) == 95) = true := by simp only [beq_iff_eq]; omega
       refine good (mr.2 (by omega)) ?_
       clear good bad mr
       clear c5
       unfold eC
       refine rn (iG @c @cW @z1 @hb' @vZ @c1 @d1 @c3 @d3 @c4 @d4 @d5) ?_
       simp [Za, lk]
      ·have d5 : ((b.toNat : Int) == 95) = false := by simp only [beq_eq_false_iff_ne, ne_eq]; omega
       refine bad (by cases hh : kH b.toNat with
        | false => rfl
        | true => have := mr.1 hh; omega) ?_
       clear good bad mr
       unfold eC
       refine rn (iG @c @cW @z1 @hb' @vZ @c1 @d1 @c3 @d3 @c4 @d4 @d5) ?_
       simp [Za, lk]
    ·have d3 : ¬ (48 : Int) ≤ (b.toNat : Int) := by omega
     have d5 : ((b.toNat : Int) == 95) = false := by simp only [beq_eq_false_iff_ne, ne_eq]; omega
     refine bad (by cases hh : kH b.toNat with
      | false => rfl
      | true => have := mr.1 hh; omega) ?_
     clear good bad mr
     unfold eC
     refine rn (dL @c @cW @z1 @hb' @vZ @c1 @d1 @c3 @d3 @d5) ?_
     simp [Za, lk]
  ·exact ih i (by omega) hi hp
theorem QO (s : ByteArray) (h : Zb) : E X 77 [.str s] h = some (.bool (js s), h) := by
 unfold js
 by_cases c1 : s.size < 1
 ·have d1 : (s.size : Int) < 1 := by omega
  have e1 : ¬ 1 ≤ s.size := by omega
  rw [Zz (X := X) _ wP _ rfl rfl]; unfold wP; exact rg (cH @c1 @d1 @e1)
 ·have d1 : ¬ (s.size : Int) < 1 := by omega
  have e1 : 1 ≤ s.size := by omega
  by_cases c2 : 16 < s.size
  ·have d2 : (16 : Int) < (s.size : Int) := by omega
   have e2 : ¬ s.size ≤ 16 := by omega
   rw [Zz (X := X) _ wP _ rfl rfl]; unfold wP; exact rg (gJ @c1 @d1 @e1 @c2 @d2 @e2)
  ·have d2 : ¬ (16 : Int) < (s.size : Int) := by omega
   have e2 : s.size ≤ 16 := by omega
   have fR := Ny s (by omega) h s.size 0 (by omega) (by omega) (fun j hj => by omega)
   rw [show ((0 : Nat) : Int) = 0 from rfl] at fR
   rcases fR with ⟨ex, hc, ha⟩ | ⟨hc, ha⟩
   ·rw [ha]
    rw [Zz (X := X) _ wP _ rfl rfl]; unfold wP
    refine rn (cP @c1 @d1 @c2 @d2) ?_
    refine aj ?_
    rw [hc]
    refine rn trivial ?_
    exact re (aL @e1 @e2)
   ·rw [ha]
    rw [Zz (X := X) _ wP _ rfl rfl]; unfold wP
    refine rn (cP @c1 @d1 @c2 @d2) ?_
    refine aj ?_
    rw [hc]
    refine rn trivial ?_
    exact re (aL @e1 @e2)
theorem QN {C : DV} {s : Sch} (hC : ∀ g, vw g 3 C = some (s.cols.map Cl.d)) (i : Int) (H : Zb) : E X 78 [Yi C s, .int .i64 i] H = some (.bool (eX s i 0), H) := by
 by_cases c1 : 0 ≤ i
 ·obtain ⟨p, rfl⟩ : ∃ p : Nat, i = p := ⟨i.toNat, by omega⟩
  by_cases c2 : p < s.cols.length
  ·obtain ⟨c, hc⟩ : ∃ c, c = s.cols[p] := ⟨_, rfl⟩
   have hci : s.cols[p]? = some c := by rw [hc]; exact List.getElem?_eq_getElem c2
   have cW := hc.symm
   have hv : eX s p 0 = !c.nl := by
    unfold eX o8
    rw [if_pos c1, Int.toNat_natCast, hci]
    simp
   rw [hv]
   clear hv hc
   obtain ⟨cols, k1, k2, k3, k4⟩ := s
   obtain ⟨xn, xk, xl⟩ := c
   simp only [Yi, Yj] at *
   have c2 : p < cols.length := c2
   have d2 : (p : Int) < (cols.length : Int) := by omega
   rw [Zz (X := X) _ A9 _ rfl rfl]; unfold A9; exact dO (gJ @hC @c1 @c2 @d2 @hci @cW)
  ·have d2 : ¬ (p : Int) < (s.cols.length : Int) := by omega
   have hv : eX s p 0 = false := by unfold eX; rw [o5 (by omega)]
   rw [hv]
   obtain ⟨cols, k1, k2, k3, k4⟩ := s
   simp only [Yi, Yj] at *
   rw [Zz (X := X) _ A9 _ rfl rfl]; unfold A9; exact dO (cP @hC @c1 @c2 @d2)
 ·have hv : eX s i 0 = false := by unfold eX; rw [o5 (by omega)]
  rw [hv]
  obtain ⟨cols, k1, k2, k3, k4⟩ := s
  simp only [Yi, Yj] at *
  rw [Zz (X := X) _ A9 _ rfl rfl]; unfold A9; exact dO (aL @hC @c1)
theorem yz {P : Cl → Bool} : ∀ {l : List Cl} {i j : Nat} {x : Cl}, l[i]? = some x → P x = true → ((∀ (k : Nat) y, k < i → l[k]? = some y → P y = false) → fidx P l j = ((j + i : Nat) : Int)) ∧ (∀ (k : Nat) y, k < i → l[k]? = some y → P y = true → fidx P l j ≠ ((j + i : Nat) : Int))
 | [], i, j, x, h, _ => by simp at h
 | z :: l, i, j, x, h, hx => by
  cases i with
  | zero =>
   simp at h; subst h
   refine ⟨fun _ => ?_, fun k y hk => by omega⟩
   rw [fidx, if_pos hx]; simp
  | succ i =>
   obtain ⟨h1, h2⟩ := yz (i := i) (j := j + 1) (by simpa using h) hx
   refine ⟨fun hp => ?_, fun k y hk hy hy2 => ?_⟩
   ·have hz := hp 0 z (by omega) rfl
    rw [fidx, hz]
    simp only [Bool.false_eq_true, if_false]
    rw [h1 (fun k y hk hy => hp (k + 1) y (by omega) (by simpa using hy))]
    omega
   ·rw [fidx]
    by_cases hz : P z = true
    ·rw [if_pos hz]; omega
    ·rw [if_neg hz]
     cases k with
     | zero => simp at hy; subst hy; exact absurd hy2 hz
     | succ k =>
      have := h2 k y (by omega) (by simpa using hy) hy2
      omega
theorem H9 {h : Zb} {Cd : DV} {s : Sch} {b b4 i : Nat} {c : Cl} (hC : ∀ g, vw g 3 Cd = some (s.cols.map Cl.d)) (hb : h[b]? = some (.box 24 (Yj Cd s))) (Cg : h[b4]? = some (.box 61 c.d.cells)) (hl : s.cols.length ≤ 1000) (hi : i < s.cols.length) :
 ∀ (r k : Nat), i - k ≤ r → k ≤ i → (∀ (j : Nat) y, j < k → s.cols[j]? = some y → (y.nm == c.nm) = false) → (∃ ex, C X (.loop lK) [(1, .ref b 0), (3, .int .i64 i), (4, .ref b4 0), (5, .int .i64 k)] h = some (.exit 2, (1, .ref b 0) :: (3, .int .i64 i) :: ex, h) ∧ (∀ (j : Nat) y, j < i → s.cols[j]? = some y → (y.nm == c.nm) = false)) ∨ (C X (.loop lK) [(1, .ref b 0), (3, .int .i64 i), (4, .ref b4 0), (5, .int .i64 k)] h = some (.ret, [(2, .bool false)], h) ∧ ∃ (j : Nat) (y : Cl), j < i ∧ s.cols[j]? = some y ∧ (y.nm == c.nm) = true) := by
 intro r
 induction r with
 | zero =>
  intro k hk pX hp
  obtain rfl : k = i := by omega
  refine .inl ⟨[(4, .ref b4 0), (5, .int .i64 k), (57, .bool false)], ?_, hp⟩
  rw [Zc]
  unfold lK
  refine rn trivial ?_
  rw [Zw]
  simp [Za, lk]
 | succ r ih =>
  intro k hk pX hp
  by_cases ck : k < i
  ·obtain ⟨K, hK⟩ : ∃ K, K = k + 1 := ⟨_, rfl⟩
   have z1 : IntKind.i64.wrap ((k : Int) + 1) = (K : Int) := wr
   have kl : k < s.cols.length := by omega
   obtain ⟨y, hy⟩ : ∃ y, y = s.cols[k] := ⟨_, rfl⟩
   have t8 : s.cols[k]? = some y := by rw [hy]; exact List.getElem?_eq_getElem kl
   have hy' := hy.symm
   cases hn : (y.nm == c.nm) with
   | false =>
    have hs : C X lK [(1, .ref b 0), (3, .int .i64 i), (4, .ref b4 0), (5, .int .i64 k)] h = some (.norm, [(1, .ref b 0), (3, .int .i64 i), (4, .ref b4 0), (5, .int .i64 K)], h) := by
     clear ih hp hy
     obtain ⟨cols, k1, k2, k3, k4⟩ := s
     obtain ⟨cn, Wn, cl⟩ := c
     obtain ⟨yn, yk, yl⟩ := y
     simp only [Yj, Cl.d, DV.cells] at *
     have kl : k < cols.length := kl
     unfold lK
     refine ah (gI @ck @kl @z1 @hC @hb @Cg @hy' @t8 @hn) ?_
     simp [Za, lk]
    rw [Zc, hs, ZB]
    refine ih K (by omega) (by omega) (fun j y2 hj hy2 => ?_)
    by_cases hjk : j = k
    ·subst hjk
     rw [t8] at hy2; injection hy2 with hy2; subst hy2; exact hn
    ·exact hp j y2 (by omega) hy2
   | true =>
    right
    have hs : C X lK [(1, .ref b 0), (3, .int .i64 i), (4, .ref b4 0), (5, .int .i64 k)] h = some (.ret, [(2, .bool false)], h) := by
     clear ih hp hy
     obtain ⟨cols, k1, k2, k3, k4⟩ := s
     obtain ⟨cn, Wn, cl⟩ := c
     obtain ⟨yn, yk, yl⟩ := y
     simp only [Yj, Cl.d, DV.cells] at *
     have kl : k < cols.length := kl
     unfold lK
     refine ah (gI @ck @kl @z1 @hC @hb @Cg @hy' @t8 @hn) ?_
     simp [Za, lk]
    rw [Zc, hs, aR]
    exact ⟨rfl, k, y, ck, t8, hn⟩
  ·exact ih k (by omega) pX hp
set_option maxHeartbeats 1000000 in
theorem PV {h : Zb} {Cd : DV} {s : Sch} {b i I : Nat} {c : Cl} (hC : ∀ g, vw g 3 Cd = some (s.cols.map Cl.d)) (hb : h[b]? = some (.box 24 (Yj Cd s))) (hl : s.cols.length ≤ 1000) (hc : s.cols[i]? = some c) (z1 : IntKind.i64.wrap ((i : Int) + 1) = (I : Int)) :
 C X jc [(1, .ref b 0), (3, .int .i64 i)] h = some (if bU s i c = true then (.norm, [(1, .ref b 0), (3, .int .i64 I)], h ++ [.box 61 c.d.cells]) else (.ret, [(2, .bool false)], h ++ [.box 61 c.d.cells])) := by
 obtain ⟨ci, hc1⟩ := List.getElem?_eq_some_iff.1 hc
 have l8 := fun g => QO c.nm g
 have bK : ∀ G, (h ++ G)[b]? = some (.box 24 (Yj Cd s)) := fun G => by rw [List.getElem?_append_left (List.getElem?_eq_some_iff.1 hb).1]; exact hb
 have hbc : (h ++ [HO.box 61 c.d.cells])[h.length]? = some (.box 61 c.d.cells) := by simp
 have hin := H9 (h := h ++ [HO.box 61 c.d.cells]) hC (bK _) hbc hl ci i 0 (by omega) (by omega) (fun j y hj => by omega)
 rw [show ((0 : Nat) : Int) = 0 from rfl] at hin
 have hfs := yz (P := fun x : Cl => x.nm == c.nm) (j := 0) hc ((KQ _ _).2 rfl)
 rw [Nat.zero_add] at hfs
 have Gn : (i : Int) < (s.cols.length : Int) := by omega
 cases h1 : js c.nm
 ·have hv : bU s i c = false := by simp [bU, h1]
  rw [hv, if_neg (by simp)]
  rw [h1] at l8
  clear hv h1 hin hfs
  obtain ⟨cn, ck, cl⟩ := c
  obtain ⟨cols, k1, k2, k3, k4⟩ := s
  simp only [Yi, Yj, Cl.d, DV.cells] at *
  have ci : i < cols.length := ci
  unfold jc
  refine ah (gI @ci @Gn @z1 @hC @hc @hc1 @l8 @hb @bK) ?_
  simp [Za, lk, DV.cells]
 rw [h1] at l8
 by_cases h2 : c.kd < 1
 ·have hv : bU s i c = false := by
   have : ¬ 1 ≤ c.kd := by omega
   simp [bU, this]
  rw [hv, if_neg (by simp)]
  clear hv h1 hin hfs
  obtain ⟨cn, ck, cl⟩ := c
  obtain ⟨cols, k1, k2, k3, k4⟩ := s
  simp only [Yi, Yj, Cl.d, DV.cells] at *
  have ci : i < cols.length := ci
  unfold jc
  refine ah (dL @ci @Gn @z1 @hC @hc @hc1 @l8 @hb @bK @h2) ?_
  simp [Za, lk, DV.cells]
 by_cases h3 : 3 < c.kd
 ·have hv : bU s i c = false := by
   have : ¬ c.kd ≤ 3 := by omega
   simp [bU, this]
  rw [hv, if_neg (by simp)]
  clear hv h1 hin hfs
  obtain ⟨cn, ck, cl⟩ := c
  obtain ⟨cols, k1, k2, k3, k4⟩ := s
  simp only [Yi, Yj, Cl.d, DV.cells] at *
  have ci : i < cols.length := ci
  unfold jc
  refine ah (dK @ci @Gn @z1 @hC @hc @hc1 @l8 @hb @bK @h2 @h3) ?_
  simp [Za, lk, DV.cells]
 have k1 : 1 ≤ c.kd := by omega
 have k3 : c.kd ≤ 3 := by omega
 rcases hin with ⟨ex, fR, hno⟩ | ⟨fR, j, y, hj, hy, U1⟩
 ·have hv : bU s i c = true := by
   simp only [bU, h1, k1, k3, decide_true, Bool.true_and, beq_iff_eq]
   exact hfs.1 hno
  rw [hv, if_pos rfl]
  clear hv h1 hfs hno
  obtain ⟨cn, ck, cl⟩ := c
  obtain ⟨cols, k1, k2, k3, k4⟩ := s
  simp only [Yi, Yj, Cl.d, DV.cells] at *
  have ci : i < cols.length := ci
  unfold jc
  refine ah (dK @ci @Gn @z1 @hC @hc @hc1 @l8 @hb @bK @h2 @h3) ?_
  refine aj ?_
  rw [fR]
  refine rn @z1 ?_
  simp [Za, lk, DV.cells]
 ·have hv : bU s i c = false := by
   have := hfs.2 j y hj hy U1
   simp only [bU, h1, k1, k3, decide_true, Bool.true_and, beq_eq_false_iff_ne]
   exact this
  rw [hv, if_neg (by simp)]
  clear hv h1 hfs
  obtain ⟨cn, ck, cl⟩ := c
  obtain ⟨cols, k1, k2, k3, k4⟩ := s
  simp only [Yi, Yj, Cl.d, DV.cells] at *
  have ci : i < cols.length := ci
  unfold jc
  refine ah (dK @ci @Gn @z1 @hC @hc @hc1 @l8 @hb @bK @h2 @h3) ?_
  refine aj ?_
  rw [fR]
  (repeat (first | rw [ZM] | rw [Zq (by simp [go_sem]; exact ⟨rfl, rfl⟩)] | rw [Yk (by simp [lk, Za, Od.v]; exact rfl)] | rw [Zy] | rw [Zx] | rw [ZZ] | rw [Ys] | rw [Yc] | rw [Yr] | rw [Yf] | rw [Ye] | rw [ZV] | rw [ZT] | rw [ZU] | rw [ZL (by decide)] | rw [ZQ] | rw [ZJ] | rw [ZK] | rw [ZC (by decide)] | rw [Yv] | rw [Yt (by simp [go_sem]; exact ⟨rfl, rfl⟩)] | rw [Yu (by simp [lk, Za, Od.v]; exact rfl)] | rw [Yn]))
theorem NJ {Cd : DV} {s : Sch} {b : Nat} (hC : ∀ g, vw g 3 Cd = some (s.cols.map Cl.d)) (hl : s.cols.length ≤ 1000) :
 ∀ (k i : Nat) (h : Zb), s.cols.length - i ≤ k → i ≤ s.cols.length → h[b]? = some (.box 24 (Yj Cd s)) → (∃ ex G, C X (.loop jc) [(1, .ref b 0), (3, .int .i64 i)] h = some (.exit 0, (1, .ref b 0) :: ex, h ++ G) ∧ ky s (s.cols.drop i) i = true) ∨ (∃ G, C X (.loop jc) [(1, .ref b 0), (3, .int .i64 i)] h = some (.ret, [(2, .bool false)], h ++ G) ∧ ky s (s.cols.drop i) i = false) := by
 intro k
 induction k with
 | zero =>
  intro i h hk hi hb
  obtain rfl : i = s.cols.length := by omega
  refine .inl ⟨[(3, .int .i64 s.cols.length), (33, .bool false)], [], ?_, by simp [ky]⟩
  obtain ⟨cols, k1, k2, k3, k4⟩ := s
  simp only [Yj] at *
  rw [Zc]
  unfold jc
  refine ah (aL @hb @hC) ?_
  rw [Zw]
  simp [Za, lk]
 | succ k ih =>
  intro i h hk hi hb
  by_cases c : i < s.cols.length
  ·obtain ⟨I, hI⟩ : ∃ I, I = i + 1 := ⟨_, rfl⟩
   have z1 : IntKind.i64.wrap ((i : Int) + 1) = (I : Int) := wr
   obtain ⟨x, hx⟩ : ∃ x, x = s.cols[i] := ⟨_, rfl⟩
   have aY : s.cols[i]? = some x := by rw [hx]; exact List.getElem?_eq_getElem c
   have hd : s.cols.drop i = x :: s.cols.drop I := by rw [List.drop_eq_getElem_cons c, ← hx, hI]
   have hbd := PV hC hb hl aY z1
   rw [hd, ky, Zc, hbd]
   cases h0 : bU s i x
   ·right
    rw [if_neg (by simp), aR]
    exact ⟨_, rfl, rfl⟩
   ·rw [if_pos rfl, ZB, ← hI, Bool.true_and]
    rcases ih I (h ++ [.box 61 x.d.cells]) (by omega) (by omega) (by rw [List.getElem?_append_left (List.getElem?_eq_some_iff.1 hb).1]; exact hb) with ⟨ex, G, h1, h2⟩ | ⟨G, h1, h2⟩
    ·exact .inl ⟨ex, _, by rw [h1, List.append_assoc], h2⟩
    ·exact .inr ⟨_, by rw [h1, List.append_assoc], h2⟩
  ·exact ih i h (by omega) hi hb
theorem BV {s : Sch} {i : Int} (h : eX s i 0 = true) : ∃ (p : Nat) (c : Cl), i = p ∧ o8 s.cols i = some c ∧ s.cols[p]? = some c ∧ (∃ pl : p < s.cols.length, s.cols[p] = c) ∧ c.nl = false ∧ ∀ k, k ≠ 0 → eX s i k = (c.kd == k) := by
 unfold eX at h
 cases hg : o8 s.cols i with
 | none => rw [hg] at h; cases h
 | some c =>
  rw [hg] at h
  obtain ⟨_, p, hp, h1, h2⟩ := IE hg
  have hn : c.nl = false := by simpa using h
  refine ⟨p, c, hp, rfl, h1, h2, hn, fun k hk => ?_⟩
  unfold eX
  rw [hg]
  have : (k == 0) = false := by simpa using hk
  simp [hn, this]
theorem zK {s : Sch} {i k : Int} (h : eX s i 0 = false) : eX s i k = false := by
 unfold eX at *
 cases hg : o8 s.cols i with
 | none => rfl
 | some c =>
  rw [hg] at h
  have : c.nl = true := by simpa using h
  simp [this]
set_option maxHeartbeats 4000000 in
theorem J4 {Cd : DV} {s : Sch} (hC : ∀ g, vw g 3 Cd = some (s.cols.map Cl.d)) (hl : s.cols.length ≤ 1000) (H : Zb) : E X 50 [Yi Cd s] H = some (.bool (cC s), H) := by
 by_cases c1 : s.cols.length < 1
 ·have hv : cC s = false := by
   have : ¬ 1 ≤ s.cols.length := by omega
   simp [cC, this]
  rw [hv]
  have d1 : (s.cols.length : Int) < 1 := by omega
  clear hv
  obtain ⟨cols, k1, k2, k3, k4⟩ := s
  simp only [Yi, Yj] at *
  rw [Zz (X := X) _ gM _ rfl rfl]; unfold gM; exact dO (cH @hC @c1 @d1)
 have d1 : ¬ (s.cols.length : Int) < 1 := by omega
 by_cases c2 : 8 < s.cols.length
 ·have hv : cC s = false := by
   have : ¬ s.cols.length ≤ 8 := by omega
   simp [cC, this]
  rw [hv]
  have d2 : (8 : Int) < (s.cols.length : Int) := by omega
  clear hv
  obtain ⟨cols, k1, k2, k3, k4⟩ := s
  simp only [Yi, Yj] at *
  rw [Zz (X := X) _ gM _ rfl rfl]; unfold gM; exact dO (ej @hC @c1 @d1 @c2 @d2)
 have d2 : ¬ (8 : Int) < (s.cols.length : Int) := by omega
 by_cases c3 : s.sort < -1
 ·have hv : cC s = false := by
   have : ¬ -1 ≤ s.sort := by omega
   simp [cC, this]
  rw [hv]
  clear hv
  obtain ⟨cols, k1, k2, k3, k4⟩ := s
  simp only [Yi, Yj] at *
  rw [Zz (X := X) _ gM _ rfl rfl]; unfold gM; exact dO (gJ @hC @c1 @d1 @c2 @d2 @c3)
 by_cases c4 : (s.cols.length : Int) ≤ s.sort
 ·have hv : cC s = false := by
   have : ¬ s.sort < (s.cols.length : Int) := by omega
   simp [cC, this]
  rw [hv]
  clear hv
  obtain ⟨cols, k1, k2, k3, k4⟩ := s
  simp only [Yi, Yj] at *
  rw [Zz (X := X) _ gM _ rfl rfl]; unfold gM; exact dO (fV @hC @c1 @d1 @c2 @d2 @c3 @c4)
 have hm : cC s = (ky s s.cols 0 && oh s) := by
  have e1 : 1 ≤ s.cols.length := by omega
  have e2 : s.cols.length ≤ 8 := by omega
  have e3 : -1 ≤ s.sort := by omega
  have e4 : s.sort < (s.cols.length : Int) := by omega
  simp [cC, e1, e2, e3, e4]
 rw [hm]
 have aD : ∀ G (bb : Bool), fin H (H ++ [HO.box 24 (Yj Cd s)] ++ G) [.bool bb] = (.bool bb, H) := by
  intro G bb
  have ht : (H ++ [HO.box 24 (Yj Cd s)] ++ G).take H.length = H := by rw [List.append_assoc, List.take_append_of_le_length (Nat.le_refl _)]; exact List.take_length
  simp only [fin]
  rw [if_pos ht]
  simp [aJ, aO]
 have gL := fun i g => QN hC i g
 rcases NJ (b := H.length) hC hl s.cols.length 0 (H ++ [.box 24 (Yj Cd s)]) (by omega) (by omega) (by simp) with ⟨ex, G, hc, hf⟩ | ⟨G, hc, hf⟩
 ·rw [List.drop_zero] at hf
  rw [show ((0 : Nat) : Int) = 0 from rfl] at hc
  rw [hf, Bool.true_and]
  have bK : (H ++ [HO.box 24 (Yj Cd s)] ++ G)[H.length]? = some (.box 24 (Yj Cd s)) := by rw [List.append_assoc]; simp
  have hfn := aD G
  clear aD
  generalize H ++ [HO.box 24 (Yj Cd s)] ++ G = h2 at *
  clear hf hm
  unfold oh
  by_cases p1 : s.key = -1
  ·rw [if_pos p1]
   have zG : (s.key == -1) = true := by simpa using p1
   clear gL
   obtain ⟨cols, k1, k2, k3, k4⟩ := s
   simp only [Yi, Yj] at *
   subst p1
   cases q1 : (k2 == -1) <;> cases q2 : (k3 == -1)
   all_goals
    rw [Zz (X := X) _ gM _ rfl rfl]; unfold gM
    refine ah (fV @hC @c1 @d1 @c2 @d2 @c3 @c4) ?_
    refine aj ?_
    rw [hc]
    refine rn (cH @bK @q1 @q2) ?_
    rw [Zn]
    simp [ZW, lk, Za, hfn, q1, q2]
  rw [if_neg p1]
  have zG : (s.key == -1) = false := by simpa using p1
  cases w1 : eX s s.key 0
  ·rw [Bool.false_and]
   have e1 := fun g => gL s.key g
   rw [w1] at e1
   clear gL w1
   obtain ⟨cols, k1, k2, k3, k4⟩ := s
   simp only [Yi, Yj] at *
   rw [Zz (X := X) _ gM _ rfl rfl]; unfold gM
   refine ah (fV @hC @c1 @d1 @c2 @d2 @c3 @c4) ?_
   refine aj ?_
   rw [hc]
   refine rn (cP @bK @p1 @zG @e1) ?_
   rw [Zn]
   simp [ZW, lk, Za, hfn]
  have e1 := fun g => gL s.key g
  rw [w1] at e1
  cases w2 : eX s s.cmp 0
  ·rw [zK w2]
   rw [Bool.false_and, Bool.and_false]
   have e2 := fun g => gL s.cmp g
   rw [w2] at e2
   clear gL w1 w2
   obtain ⟨cols, k1, k2, k3, k4⟩ := s
   simp only [Yi, Yj] at *
   rw [Zz (X := X) _ gM _ rfl rfl]; unfold gM
   refine ah (fV @hC @c1 @d1 @c2 @d2 @c3 @c4) ?_
   refine aj ?_
   rw [hc]
   refine rn (ej @bK @p1 @zG @e1 @e2) ?_
   rw [Zn]
   simp [ZW, lk, Za, hfn]
  have e2 := fun g => gL s.cmp g
  rw [w2] at e2
  obtain ⟨p, c, hp, _, hpi, ⟨pl, hpe⟩, hnl, hok⟩ := BV w2
  rw [hok 1 (by omega)]
  have Kw : (0 : Int) ≤ (p : Int) := by omega
  have hpl : (p : Int) < (s.cols.length : Int) := by omega
  cases q1 : (c.kd == 1)
  ·rw [Bool.false_and, Bool.and_false]
   have ig : (c.kd != 1) = true := by rw [bne, q1]; rfl
   clear gL w1 w2 hok
   obtain ⟨cols, k1, k2, k3, k4⟩ := s
   obtain ⟨cn, ck, cl⟩ := c
   simp only [Yi, Yj] at *
   subst hp
   have pl : p < cols.length := pl
   rw [Zz (X := X) _ gM _ rfl rfl]; unfold gM
   refine ah (fV @hC @c1 @d1 @c2 @d2 @c3 @c4) ?_
   refine aj ?_
   rw [hc]
   refine ah (iG @bK @p1 @zG @e1 @e2 @hC @hpi @hpe @pl @Kw @hpl @ig) ?_
   rw [Zn]
   simp [ZW, lk, Za, hfn]
  have ig : (c.kd != 1) = false := by rw [bne, q1]; rfl
  rw [Bool.true_and, Bool.true_and]
  by_cases p3 : s.del = -1
  ·have BS : (s.del == -1) = true := by simpa using p3
   rw [BS, Bool.true_or]
   clear gL w1 w2 hok
   obtain ⟨cols, k1, k2, k3, k4⟩ := s
   obtain ⟨cn, ck, cl⟩ := c
   simp only [Yi, Yj] at *
   subst hp
   have pl : p < cols.length := pl
   rw [Zz (X := X) _ gM _ rfl rfl]; unfold gM
   refine ah (fV @hC @c1 @d1 @c2 @d2 @c3 @c4) ?_
   refine aj ?_
   rw [hc]
   refine ah (jD @bK @p1 @zG @e1 @e2 @hC @hpi @hpe @pl @Kw @hpl @ig @BS) ?_
   rw [Zn]
   simp [ZW, lk, Za, hfn]
  have BS : (s.del == -1) = false := by simpa using p3
  rw [BS, Bool.false_or]
  have e3 := fun g => gL s.del g
  cases w3 : eX s s.del 0
  ·rw [zK w3]
   rw [w3] at e3
   clear gL w1 w2 w3 hok
   obtain ⟨cols, k1, k2, k3, k4⟩ := s
   obtain ⟨cn, ck, cl⟩ := c
   simp only [Yi, Yj] at *
   subst hp
   have pl : p < cols.length := pl
   rw [Zz (X := X) _ gM _ rfl rfl]; unfold gM
   refine ah (fV @hC @c1 @d1 @c2 @d2 @c3 @c4) ?_
   refine aj ?_
   rw [hc]
   refine ah (mC @bK @p1 @zG @e1 @e2 @e3 @hC @hpi @hpe @pl @Kw @hpl @ig @BS) ?_
   rw [Zn]
   simp [ZW, lk, Za, hfn]
  rw [w3] at e3
  obtain ⟨p', c', hp', _, TM, ⟨Ni, TN⟩, WG, Ox⟩ := BV w3
  rw [Ox 3 (by omega)]
  have TP : (0 : Int) ≤ (p' : Int) := by omega
  have Iv : (p' : Int) < (s.cols.length : Int) := by omega
  clear gL w1 w2 w3 hok Ox
  obtain ⟨cols, k1, k2, k3, k4⟩ := s
  obtain ⟨cn, ck, cl⟩ := c
  obtain ⟨W5, W6, cl'⟩ := c'
  simp only [Yi, Yj] at *
  subst hp
  subst hp'
  have pl : p < cols.length := pl
  have Ni : p' < cols.length := Ni
  rw [Zz (X := X) _ gM _ rfl rfl]; unfold gM
  refine ah (fV @hC @c1 @d1 @c2 @d2 @c3 @c4) ?_
  refine aj ?_
  rw [hc]
  refine ah (o9 @bK @p1 @zG @e1 @e2 @e3 @hC @hpi @hpe @pl @Kw @hpl @TM @TN @Ni @TP @Iv @ig @BS) ?_
  rw [Zn]
  simp [ZW, lk, Za, hfn]
 ·rw [List.drop_zero] at hf
  rw [show ((0 : Nat) : Int) = 0 from rfl] at hc
  rw [hf, Bool.false_and]
  have hfn := aD G
  clear aD
  generalize H ++ [HO.box 24 (Yj Cd s)] ++ G = h2 at *
  clear hf hm gL
  obtain ⟨cols, k1, k2, k3, k4⟩ := s
  simp only [Yi, Yj] at *
  rw [Zz (X := X) _ gM _ rfl rfl]; unfold gM
  refine ah (fV @hC @c1 @d1 @c2 @d2 @c3 @c4) ?_
  refine aj ?_
  rw [hc]
  refine rn trivial ?_
  rw [Zn]
  simp [ZW, lk, Za, hfn]
end Go.Proofs.YtmbgfbomgbdjeaaGreatDoor
