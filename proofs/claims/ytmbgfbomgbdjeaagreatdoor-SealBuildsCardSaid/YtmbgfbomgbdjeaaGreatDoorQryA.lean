/- Ideal runs. -/
import Derived.Test.YtmbgfbomgbdjeaaGreatDoorStep
import Derived.Test.YtmbgfbomgbdjeaaGreatDoorPlainB
import Derived.Test.YtmbgfbomgbdjeaaGreatDoorNod
import Derived.Test.YtmbgfbomgbdjeaaGreatDoorColT
namespace Go.Proofs.YtmbgfbomgbdjeaaGreatDoor
attribute [local go_sem] ZN ZG ZF ZH Zt Zh Zp Zk Zm Ze Zf Zl Zu Zv ZI Zs Zi ZE Zy Zx ZX ZA Yp put lk Od.v Za Zg Zo ax Yg Yh Yd ay eqk DV.isU DV.cells ae ZO Yb ZP Zr splice ZR af ZY eqs bJ cr bY bz cg bH bw bF bZ bA cm bE bG bC cu cw bW Yx Yy
attribute [local go_sem ↓] Zj
set_option linter.unusedVariables false
set_option linter.unusedSimpArgs false
set_option maxRecDepth 10000
def kH (b : Nat) : Bool := (decide (97 ≤ b) && decide (b ≤ 122)) || (decide (48 ≤ b) && decide (b ≤ 57)) || decide (b = 95)
def aQ : ByteArray := ⟨#[97, 98, 99, 100, 101, 102, 103, 104, 105, 106, 107, 108, 109, 110, 111, 112, 113, 114, 115, 116, 117, 118, 119, 120, 121, 122, 48, 49, 50, 51, 52, 53, 54, 55, 56, 57, 95]⟩
def ey : List DV := (List.range 256).map fun c => .bool (kH c)
theorem Mm (c : Nat) (hc : c < 256) : ey[c]? = some (.bool (kH c)) := by simp [ey, hc]
theorem Eo {h : Zb} {a : Nat} (hA : h[a]? = some (.box 160 ey)) (c : Nat) (hc : c < 256) : E X 153 [.ref a 0, .int .u8 c] h = some (.bool (kH c), h) := by
 have hs := Mm c hc
 have h1 : (0 : Int) ≤ (c : Int) := by omega
 have h2 : (c : Int) < 256 := by omega
 rw [Zz (X := X) _ Jh _ rfl rfl]; unfold Jh; exact dO (ej @hA @hs @hc @h1 @h2)
def gE (s : ByteArray) (j : Nat) : Bool := kH (s.data.toList.getD j 0).toNat
theorem nJ {s : ByteArray} {j : Nat} {b : UInt8} (h : s.data.toList[j]? = some b) : gE s j = kH b.toNat := by
 rw [gE, List.getD_eq_getElem?_getD, h]; rfl
theorem ext_toList (s : ByteArray) (a b : Nat) : (s.extract a b).data.toList = (s.data.toList.take b).drop a := by
 rw [ByteArray.data_extract, Array.toList_extract, List.extract_eq_take_drop, List.drop_take]
theorem LG {h : Zb} {a : Nat} {s : ByteArray} (hA : h[a]? = some (.box 160 ey)) (hb : s.size ≤ 1000000) :
 ∀ k, k ≤ s.size → ∃ m ex, m ≤ k ∧ (m = 0 ∨ gE s (m - 1) = false) ∧ (∀ j, m ≤ j → j < k → gE s j = true) ∧ C X (.loop nH) [(0, .str (s.extract 0 k)), (1, .ref a 0)] h = some (.exit 0, (0, .str (s.extract 0 m)) :: ex, h) := by
 intro k
 induction k with
 | zero =>
  intro _
  refine ⟨0, [(1, .ref a 0), (7, .bool false)], Nat.le_refl _, .inl rfl, fun j h1 h2 => by omega, ?_⟩
  obtain ⟨t, ht⟩ : ∃ t, t = s.extract 0 0 := ⟨_, rfl⟩
  have hz : t.size = 0 := by rw [ht, ByteArray.size_extract]; omega
  rw [← ht]
  clear ht
  rw [Zc]
  unfold nH
  refine uy trivial ?_
  rw [Zw]
  simp [Za, lk]
 | succ k ih =>
  intro hk
  obtain ⟨m, ex, h1, h2, h3, h4⟩ := ih (by omega)
  obtain ⟨t, ht⟩ : ∃ t, t = s.extract 0 (k + 1) := ⟨_, rfl⟩
  obtain ⟨u, hu⟩ : ∃ u, u = s.extract 0 k := ⟨_, rfl⟩
  obtain ⟨K, hK⟩ : ∃ K, K = k + 1 := ⟨_, rfl⟩
  have hz : t.size = K := by rw [ht, ByteArray.size_extract]; omega
  have z1 : IntKind.i64.wrap ((K : Int) - 1) = (k : Int) := wr
  have hsl : s.data.toList.length = s.size := by show s.data.toList.length = s.data.size; exact Array.length_toList
  obtain ⟨b, hbb⟩ : ∃ b, b = s.data.toList[k]'(by omega) := ⟨_, rfl⟩
  have hsb : s.data.toList[k]? = some b := by rw [hbb]; exact List.getElem?_eq_getElem _
  have hg : t.data.toList[k]? = some b := by rw [ht, ext_toList, List.drop_zero, List.getElem?_take, if_pos (by omega)]; exact hsb
  have hg' : t.data[k]? = some b := by rw [← Array.getElem?_toList]; exact hg
  have hx : t.extract 0 k = u := by
   rw [ht, hu, ByteArray.extract_extract]
   congr 1
   omega
  have hl := nJ hsb
  have wD := Eo hA b.toNat b.toNat_lt
  have k0 : (0 : Int) < (K : Int) := by omega
  have k1 : 0 < K := by omega
  have k2 : k ≤ K := by omega
  rw [← hu] at h4
  rw [← ht]
  cases hq : kH b.toNat
  ·rw [hq] at hl wD
   refine ⟨k + 1, [(1, .ref a 0), (15, .bool true)], Nat.le_refl _, .inr hl, fun j q1 q2 => by omega, ?_⟩
   rw [← ht]
   clear ht hu hbb h3 h4 ih hsb hK
   rw [Zc]
   unfold nH
   refine uy (gJ @z1 @hg @hg' @wD @k0 @k1) ?_
   rw [Zw]
   simp [Za, lk]
  ·rw [hq] at hl wD
   refine ⟨m, ex, by omega, h2, fun j q1 q2 => ?_, ?_⟩
   ·by_cases c : j = k
    ·rw [c]; exact hl
    ·exact h3 j q1 (by omega)
   ·have hs : C X nH [(0, .str t), (1, .ref a 0)] h = some (.norm, [(0, .str u), (1, .ref a 0)], h) := by
     clear ht hu hbb h3 h4 ih hsb hK
     unfold nH
     refine Na (iF @z1 @hg @hg' @wD @k0 @k1 @k2 @hx) ?_
     simp [Za, lk]
    rw [Zc, hs, ZB]
    exact h4
theorem LH {h : Zb} {a : Nat} {s : ByteArray} (hA : h[a]? = some (.box 160 ey)) (hb : s.size ≤ 1000000) :
 ∀ k j, s.size - j ≤ k → j ≤ s.size → ∃ p ex, j ≤ p ∧ p ≤ s.size ∧ (p = s.size ∨ gE s p = false) ∧ (∀ q, j ≤ q → q < p → gE s q = true) ∧ C X (.loop nI) [(0, .str (s.extract j s.size)), (1, .ref a 0)] h = some (.exit 0, (0, .str (s.extract p s.size)) :: ex, h) := by
 intro k
 induction k with
 | zero =>
  intro j h1 h2
  obtain rfl : j = s.size := by omega
  refine ⟨s.size, [(1, .ref a 0), (7, .bool false)], Nat.le_refl _, Nat.le_refl _, .inl rfl, fun j h1 h2 => by omega, ?_⟩
  obtain ⟨t, ht⟩ : ∃ t, t = s.extract s.size s.size := ⟨_, rfl⟩
  have hz : t.size = 0 := by rw [ht, ByteArray.size_extract]; omega
  rw [← ht]
  clear ht
  rw [Zc]
  unfold nI
  refine uy trivial ?_
  rw [Zw]
  simp [Za, lk]
 | succ k ih =>
  intro j h1 h2
  by_cases c : j < s.size
  ·obtain ⟨p, ex, i1, i2, i3, i4, i5⟩ := ih (j + 1) (by omega) (by omega)
   obtain ⟨t, ht⟩ : ∃ t, t = s.extract j s.size := ⟨_, rfl⟩
   obtain ⟨u, hu⟩ : ∃ u, u = s.extract (j + 1) s.size := ⟨_, rfl⟩
   obtain ⟨K, hK⟩ : ∃ K, K = s.size - j := ⟨_, rfl⟩
   have hz : t.size = K := by rw [ht, ByteArray.size_extract]; omega
   have hsl : s.data.toList.length = s.size := by show s.data.toList.length = s.data.size; exact Array.length_toList
   obtain ⟨b, hbb⟩ : ∃ b, b = s.data.toList[j]'(by omega) := ⟨_, rfl⟩
   have hsb : s.data.toList[j]? = some b := by rw [hbb]; exact List.getElem?_eq_getElem _
   have hg : t.data.toList[0]? = some b := by rw [ht, ext_toList, List.getElem?_drop, Nat.add_zero, List.getElem?_take, if_pos (by omega)]; exact hsb
   have hg' : t.data[0]? = some b := by rw [← Array.getElem?_toList]; exact hg
   have hg2 : ∀ hb : 0 < t.data.size, t.data[0]'hb = b := fun hb => by rw [Array.getElem?_eq_getElem hb] at hg'; injection hg'
   have hx : t.extract 1 K = u := by
    rw [ht, hu, ByteArray.extract_extract]
    congr 1
    omega
   have hl := nJ hsb
   have wD := Eo hA b.toNat b.toNat_lt
   have k0 : (0 : Int) < (K : Int) := by omega
   have k1 : 0 < K := by omega
   have k2 : 1 ≤ K := by omega
   rw [← hu] at i5
   rw [← ht]
   cases hq : kH b.toNat
   ·rw [hq] at hl wD
    refine ⟨j, [(1, .ref a 0), (12, .bool true)], Nat.le_refl _, h2, .inr hl, fun q q1 q2 => by omega, ?_⟩
    rw [← ht]
    clear ht hu hbb i4 i5 ih hsb hK
    rw [Zc]
    unfold nI
    refine uy (gJ @hg @hg' @hg2 @wD @k0 @k1) ?_
    rw [Zw]
    simp [Za, lk]
   ·rw [hq] at hl wD
    refine ⟨p, ex, by omega, i2, i3, fun q q1 q2 => ?_, ?_⟩
    ·by_cases c : q = j
     ·rw [c]; exact hl
     ·exact i4 q (by omega) q2
    ·have hs : C X nI [(0, .str t), (1, .ref a 0)] h = some (.norm, [(0, .str u), (1, .ref a 0)], h) := by
      clear ht hu hbb i4 i5 ih hsb hK
      unfold nI
      refine Na (iF @hg @hg' @hg2 @wD @k0 @k1 @k2 @hx) ?_
      simp [Za, lk]
     rw [Zc, hs, ZB]
     exact i5
  ·exact ih j (by omega) h2
theorem MO {h : Zb} {a : Nat} {s : ByteArray} (hA : h[a]? = some (.box 160 ey)) (hb : s.size ≤ 1000000) : ∃ m, m ≤ s.size ∧ (m = 0 ∨ gE s (m - 1) = false) ∧ (∀ j, m ≤ j → j < s.size → gE s j = true) ∧ E X 140 [.str s, .ref a 0] h = some (.str (s.extract 0 m), h) := by
 obtain ⟨m, ex, h1, h2, h3, h4⟩ := LG hA hb s.size (Nat.le_refl _)
 rw [ByteArray.extract_zero_size] at h4
 refine ⟨m, h1, h2, h3, ?_⟩
 generalize s.extract 0 m = t at *
 rw [Zz (X := X) _ Jo _ rfl rfl]; unfold Jo
 refine rn trivial ?_
 refine aj ?_
 rw [h4]
 refine rn trivial ?_
 exact re trivial
theorem MQ {h : Zb} {a : Nat} {s : ByteArray} (hA : h[a]? = some (.box 160 ey)) (hb : s.size ≤ 1000000) : ∃ p, p ≤ s.size ∧ (p = s.size ∨ gE s p = false) ∧ (∀ q, q < p → gE s q = true) ∧ E X 139 [.str s, .ref a 0] h = some (.str (s.extract p s.size), h) := by
 obtain ⟨p, ex, _, h1, h2, h3, h4⟩ := LH hA hb s.size 0 (by omega) (by omega)
 rw [ByteArray.extract_zero_size] at h4
 refine ⟨p, h1, h2, fun q hq => h3 q (by omega) hq, ?_⟩
 generalize s.extract p s.size = t at *
 rw [Zz (X := X) _ Jp _ rfl rfl]; unfold Jp
 refine rn trivial ?_
 refine aj ?_
 rw [h4]
 refine rn trivial ?_
 exact re trivial
def di (i : Nat) : List DV := (List.range 256).map fun c => .bool ((aQ.data.toList.take i).any fun x => x.toNat == c)
theorem mg (i : Nat) : (di i).length = 256 := by simp [di]
theorem yE (i : Nat) : (di i).all DV.one = true := by simp [di, DV.one]
theorem DN : di 0 = qn 256 (.bool false) := by
 unfold di qn
 apply List.ext_getElem?
 intro i
 rw [List.getElem?_replicate, List.getElem?_map]
 by_cases c : i < 256
 ·rw [List.getElem?_range c, if_pos c]; rfl
 ·rw [List.getElem?_eq_none (by simpa using c), if_neg c]; rfl
theorem kz : di 37 = ey := by
 unfold di ey
 apply List.map_congr_left
 intro c hc
 rw [List.mem_range] at hc
 have h : ∀ c : Fin 256, ((aQ.data.toList.take 37).any fun x => x.toNat == c.val) = kH c.val := by decide +kernel
 rw [h ⟨c, hc⟩]
theorem DO {i : Nat} {b : UInt8} (h : aQ.data.toList[i]? = some b) : splice (di i) b.toNat [.bool true] = di (i + 1) := by
 have hb := b.toNat_lt
 obtain ⟨hi, vZ⟩ := List.getElem?_eq_some_iff.1 h
 have ht : aQ.data.toList.take (i + 1) = aQ.data.toList.take i ++ [b] := by rw [List.take_add_one, h]; rfl
 apply List.ext_getElem?
 intro j
 have h1 : splice (di i) b.toNat [.bool true] = (di i).set b.toNat (.bool true) := by
  rw [List.set_eq_take_append_cons_drop, if_pos (by rw [mg]; exact hb)]
  simp [splice]
 rw [h1, List.getElem?_set]
 by_cases c1 : b.toNat = j
 ·subst c1
  rw [if_pos rfl, if_pos (by rw [mg]; exact hb)]
  unfold di
  rw [List.getElem?_map, List.getElem?_range hb, ht]
  simp
 ·rw [if_neg c1]
  unfold di
  rw [List.getElem?_map, List.getElem?_map, ht]
  by_cases c2 : j < 256
  ·rw [List.getElem?_range c2]
   have : (b.toNat == j) = false := by simpa using c1
   simp [this]
  ·rw [List.getElem?_eq_none (by simpa using c2)]
   rfl
theorem yL : ∀ i : Fin 37, ∃ b, aQ.data.toList[i.val]? = some b ∧ b.toNat < 128 := by
 intro i
 have h : ∀ i : Fin 37, (aQ.data.toList[i.val]?.map fun b => decide (b.toNat < 128)) = some true := by decide +kernel
 have h1 := h i
 cases hb : aQ.data.toList[i.val]? with
 | none => rw [hb] at h1; cases h1
 | some b =>
  rw [hb] at h1
  refine ⟨b, rfl, ?_⟩
  simpa using h1
theorem LI (H : Zb) : ∀ (k i : Nat), 37 - i ≤ k → i ≤ 37 → ∃ ex, C X (.loop pO) [(0, .str aQ), (2, .ref H.length 0), (4, .int .i64 i)] (H ++ [.box 160 (di i)]) = some (.exit 0, (0, .str aQ) :: (2, .ref H.length 0) :: ex, H ++ [.box 160 ey]) := by
 have hz : aQ.size = 37 := rfl
 intro k
 induction k with
 | zero =>
  intro i hk hi
  obtain rfl : i = 37 := by omega
  refine ⟨[(4, .int .i64 37), (9, .bool false)], ?_⟩
  rw [kz]
  rw [Zc]
  unfold pO
  generalize aQ = L at *
  generalize ey = sc at *
  refine uy trivial ?_
  rw [Zw]
  simp [Za, lk]
 | succ k ih =>
  intro i hk hi
  by_cases c : i < 37
  ·obtain ⟨I, hI⟩ : ∃ I, I = i + 1 := ⟨_, rfl⟩
   have z1 : IntKind.i64.wrap ((i : Int) + 1) = (I : Int) := wr
   obtain ⟨b, hg, hb⟩ := yL ⟨i, c⟩
   simp only at hg
   have hst := DO hg
   rw [← hI] at hst
   obtain ⟨ex, hc⟩ := ih I (by omega) (by omega)
   refine ⟨ex, ?_⟩
   have hg' : aQ.data[i]? = some b := by rw [← Array.getElem?_toList]; exact hg
   have hg2 : ∀ hb : i < aQ.data.size, aQ.data[i]'hb = b := fun hb => by rw [Array.getElem?_eq_getElem hb] at hg'; injection hg'
   have c1 : (i : Int) < 37 := by omega
   have d1 : ¬ (128 : Int) ≤ (b.toNat : Int) := by omega
   have d2 : ¬ 128 ≤ b.toNat := by omega
   have d3 : (0 : Int) ≤ (b.toNat : Int) := by omega
   have d4 : (b.toNat : Int) < 256 := by omega
   have d5 : b.toNat < 256 := by omega
   have d6 : b.toNat + 1 ≤ 256 := by omega
   have hl := mg i
   have hs : C X pO [(0, .str aQ), (2, .ref H.length 0), (4, .int .i64 i)] (H ++ [.box 160 (di i)]) = some (.norm, [(0, .str aQ), (2, .ref H.length 0), (4, .int .i64 I)], H ++ [.box 160 (di I)]) := by
    clear ih hc hI
    rw [← hst]
    clear hst
    unfold pO
    generalize aQ = L at *
    generalize di i = cs at *
    refine uy (jD @z1 @hg @hg' @hg2 @c @c1 @d1 @d2 @d3 @d4 @d5 @d6 @hl) ?_
    simp [Za, lk, splice]
   rw [Zc, hs, ZB]
   exact hc
  ·exact ih i (by omega) hi
theorem AG (n : Nat) : ∀ (cs : List DV) (h : Zb), (∀ x ∈ cs, ∃ b, x = .bool b) → cZ n cs h = some (cs, h)
 | [], _, _ => rfl
 | c :: cs, h, hn => by
  obtain ⟨b, rfl⟩ := hn c List.mem_cons_self
  have := AG n cs h fun x hx => hn x (List.mem_cons_of_mem _ hx)
  simp [cZ, aO, this]
theorem MR (H : Zb) : E X 138 [.str aQ] H = some (.tup [.agg ey, .bool true], H) := by
 obtain ⟨ex, hc⟩ := LI H 37 0 (by omega) (by omega)
 rw [DN, show ((0 : Nat) : Int) = 0 from rfl] at hc
 have hl : ey.length = 256 := by rw [← kz]; exact mg _
 have ha : ey.all DV.one = true := by rw [← kz]; exact yE _
 have hfz : ∀ g, cZ H.length ey g = some (ey, g) := fun g => AG _ _ _ (fun x hx => by
  obtain ⟨c, _, rfl⟩ := List.mem_map.1 hx
  exact ⟨_, rfl⟩)
 have htk : ey.take 256 = ey := List.take_of_length_le (by omega)
 have lX : ey.drop 256 = [] := List.drop_of_length_le (by omega)
 rw [Zz (X := X) _ Jq _ rfl rfl]; unfold Jq
 generalize aQ = L at *
 generalize ey = sc at *
 generalize qn 256 (.bool false) = zc at *
 refine rn (cP @hl @ha @htk @lX) ?_
 refine aj ?_
 rw [hc]
 refine rn (cP @hl @ha @htk @lX) ?_
 exact re (ej @hl @ha @htk @lX @hfz)
theorem KQ (s s' : ByteArray) : (s == s') = true ↔ s = s' := by
 constructor
 ·intro h
  have h' : (s.data == s'.data) = true := h
  cases s; cases s'
  simp at h' ⊢
  exact h'
 ·rintro rfl; exact jV s
theorem xI (s : ByteArray) : (s == (⟨#[]⟩ : ByteArray)) = decide (s.size = 0) := by
 by_cases h : s.size = 0
 ·have : s = ⟨#[]⟩ := ByteArray.size_eq_zero_iff.1 h
  rw [this]; rfl
 ·have h2 : ¬ (s == (⟨#[]⟩ : ByteArray)) = true := by
   rw [KQ]
   rintro rfl
   exact h rfl
  rw [Bool.eq_false_iff.2 h2]
  simp [h]
def jG (s : ByteArray) : Bool := s.data.toList.all fun b => kH b.toNat
theorem qH (s : ByteArray) : jG s = true ↔ ∀ j, j < s.size → gE s j = true := by
 have hl : s.data.toList.length = s.size := by show s.data.toList.length = s.data.size; exact Array.length_toList
 rw [jG, List.all_eq_true]
 constructor
 ·intro h j hj
  have hb : s.data.toList[j]? = some (s.data.toList[j]'(by omega)) := List.getElem?_eq_getElem _
  rw [nJ hb]
  exact h _ (List.getElem_mem _)
 ·intro h b hb
  obtain ⟨j, hj, rfl⟩ := List.mem_iff_getElem.1 hb
  have := h j (by omega)
  rwa [nJ (List.getElem?_eq_getElem hj)] at this
theorem M4 {s : ByteArray} (h0 : s.size ≠ 0) (hb : s.size ≤ 1000000) (H : Zb) : ∃ r, E X 118 [.str s, .str aQ] H = some (.str r, H) ∧ (r == (⟨#[]⟩ : ByteArray)) = jG s := by
 have hA : (H ++ [HO.box 160 ey])[H.length]? = some (.box 160 ey) := by simp
 obtain ⟨m, m1, m2, m3, SV⟩ := MO hA hb
 obtain ⟨t, ht⟩ : ∃ t, t = s.extract 0 m := ⟨_, rfl⟩
 have Va : t.size = m := by rw [ht, ByteArray.size_extract]; omega
 rw [← ht] at SV
 obtain ⟨p, p1, p2, p3, Wb⟩ := MQ (s := t) hA (by omega)
 have hts : ∀ q, q < m → gE t q = gE s q := by
  intro q hq
  rw [gE, gE, ht, ext_toList, List.drop_zero, List.getD_eq_getElem?_getD, List.getD_eq_getElem?_getD, List.getElem?_take, if_pos hq]
 refine ⟨t.extract p t.size, ?_, ?_⟩
 ·have Wd := MR
  have x0 : (s == (⟨#[]⟩ : ByteArray)) = false := by rw [xI]; simpa using h0
  have x1 : (aQ == (⟨#[]⟩ : ByteArray)) = false := by rw [xI]; rfl
  have x2 : aQ.size = 37 := rfl
  have hl : ey.length = 256 := by rw [← kz]; exact mg _
  have ha : ey.all DV.one = true := by rw [← kz]; exact yE _
  have hz : (qn 256 (DV.bool false)).length = 256 := by simp [qn]
  have lX : (qn 256 (DV.bool false)).drop 256 = [] := List.drop_of_length_le (by rw [hz]; omega)
  generalize t.extract p t.size = r at *
  rw [Zz (X := X) _ JD _ rfl rfl]; unfold JD
  generalize aQ = L at *
  generalize ey = sc at *
  generalize qn 256 (.bool false) = zc at *
  clear m2 m3 p2 p3 hts ht Va
  refine uy (gI @x0 @x1 @x2 @Wd @Wb @SV @hl @ha @lX) ?_
  exact re @x0
 ·rw [xI, ByteArray.size_extract, Nat.min_self]
  by_cases hm : m = 0
  ·have h1 : jG s = true := (qH s).2 fun j hj => m3 j (by omega) hj
   rw [h1]
   have : t.size - p = 0 := by omega
   simp [this]
  ·have h1 : gE s (m - 1) = false := by
    rcases m2 with h | h
    ·exact absurd h hm
    ·exact h
   have h2 : jG s = false := by
    rw [Bool.eq_false_iff]
    intro h
    rw [(qH s).1 h (m - 1) (by omega)] at h1
    cases h1
   rw [h2]
   have hp : p < m := by
    rcases Nat.lt_or_ge p m with h | h
    ·exact h
    ·have := p3 (m - 1) (by omega)
     rw [hts (m - 1) (by omega), h1] at this
     cases this
   have : ¬ t.size - p = 0 := by omega
   simp [this]
def js (s : ByteArray) : Bool := decide (1 ≤ s.size) && (decide (s.size ≤ 16) && jG s)
theorem QM (s : ByteArray) (h : Zb) : E X 79 [.str s] h = some (.bool (js s), h) := by
 by_cases c1 : 1 ≤ s.size
 ·have d1 : (1 : Int) ≤ (s.size : Int) := by omega
  by_cases c2 : s.size ≤ 16
  ·have d2 : (s.size : Int) ≤ 16 := by omega
   obtain ⟨r, qg, hr⟩ := M4 (s := s) (by omega) (by omega) h
   have hn : js s = jG s := by simp [js, c1, c2]
   rw [hn, ← hr]
   have qg : E X 118 [.str s, .str ⟨#[97, 98, 99, 100, 101, 102, 103, 104, 105, 106, 107, 108, 109, 110, 111, 112, 113, 114, 115, 116, 117, 118, 119, 120, 121, 122, 48, 49, 50, 51, 52, 53, 54, 55, 56, 57, 95]⟩] h = some (.str r, h) := qg
   clear hn hr
   rw [Zz (X := X) _ A8 _ rfl rfl]; unfold A8; exact rg (ej @c1 @c2 @d1 @d2 @qg)
  ·have d2 : ¬ (s.size : Int) ≤ 16 := by omega
   have hn : js s = false := by simp [js, c2]
   rw [hn]
   rw [Zz (X := X) _ A8 _ rfl rfl]; unfold A8; exact rg (cP @c1 @c2 @d1 @d2)
 ·have d1 : ¬ (1 : Int) ≤ (s.size : Int) := by omega
  have hn : js s = false := by simp [js, c1]
  rw [hn]
  rw [Zz (X := X) _ A8 _ rfl rfl]; unfold A8; exact rg (aL @c1 @d1)
structure Cl where
 nm : ByteArray
 kd : Int
 nl : Bool
abbrev Cl.d (c : Cl) : DV := .agg [.str c.nm, .int .i64 c.kd, .bool c.nl]
structure Sch where
 cols : List Cl
 key : Int
 cmp : Int
 del : Int
 sort : Int
abbrev Yj (C : DV) (s : Sch) : List DV := [C, .int .i64 s.key, .int .i64 s.cmp, .int .i64 s.del, .int .i64 s.sort]
abbrev Yi (C : DV) (s : Sch) : DV := .agg (Yj C s)
abbrev Wq (x : Int × Bool) : DV := .agg [.int .i64 x.1, .bool x.2]
abbrev intD (x : Int) : DV := .int .i64 x
def fidx {α : Type} (P : α → Bool) : List α → Nat → Int
 | [], _ => -1
 | x :: l, i => if P x then i else fidx P l (i + 1)
theorem LQ {h : Zb} {L : DV} {xs : List Cl} {f : Nat} {cap : List DV} {P : Cl → Bool} (hL : vw h 3 L = some (xs.map Cl.d)) (hF : ∀ x, x ∈ xs → E X f (Cl.d x :: cap) h = some (.bool (P x), h)) (hb : xs.length ≤ 1000000) :
 ∀ (k i : Nat), xs.length - i ≤ k → i ≤ xs.length → (∃ ex, C X (.loop jR) [(0, L), (1, .func f [] cap), (7, .int .i64 xs.length), (8, .int .i64 i)] h = some (.exit 0, (0, L) :: ex, h) ∧ fidx P (xs.drop i) i = -1) ∨ C X (.loop jR) [(0, L), (1, .func f [] cap), (7, .int .i64 xs.length), (8, .int .i64 i)] h = some (.ret, [(4, .int .i64 (fidx P (xs.drop i) i))], h) := by
 intro k
 induction k with
 | zero =>
  intro i hk hi
  obtain rfl : i = xs.length := by omega
  refine .inl ⟨[(1, .func f [] cap), (7, .int .i64 xs.length), (8, .int .i64 xs.length), (9, .bool false)], ?_, by simp [fidx]⟩
  rw [Zc]
  unfold jR
  refine rn @hL ?_
  rw [Zw]
  simp [Za, lk]
 | succ k ih =>
  intro i hk hi
  by_cases c : i < xs.length
  ·obtain ⟨I, hI⟩ : ∃ I, I = i + 1 := ⟨_, rfl⟩
   have z1 : IntKind.i64.wrap ((i : Int) + 1) = (I : Int) := wr
   obtain ⟨x, hx⟩ : ∃ x, x = xs[i] := ⟨_, rfl⟩
   have aY : xs[i]? = some x := by rw [hx]; exact List.getElem?_eq_getElem c
   have hx' := hx.symm
   have hd : xs.drop i = x :: xs.drop I := by rw [List.drop_eq_getElem_cons c, hx', hI]
   have e := hF x (by rw [hx]; exact List.getElem_mem c)
   have eY := ih I (by omega) (by omega)
   rw [hd, fidx]
   cases hp : P x
   ·rw [hp] at e
    have hs : C X jR [(0, L), (1, .func f [] cap), (7, .int .i64 xs.length), (8, .int .i64 i)] h = some (.norm, [(0, L), (1, .func f [] cap), (7, .int .i64 xs.length), (8, .int .i64 I)], h) := by
     clear ih eY hx hd hF hI
     obtain ⟨xn, xk, xl⟩ := x
     (try simp only [Cl.d] at *)
     unfold jR
     refine ah (gJ @c @z1 @hL @hx' @aY @e) ?_
     simp [Za, lk]
    rw [Zc, hs, ZB]
    simp only [Bool.false_eq_true, if_false]
    rw [← hI]
    exact eY
   ·rw [hp] at e
    right
    have hs : C X jR [(0, L), (1, .func f [] cap), (7, .int .i64 xs.length), (8, .int .i64 i)] h = some (.ret, [(4, .int .i64 i)], h) := by
     clear ih eY hx hd hF hI
     obtain ⟨xn, xk, xl⟩ := x
     (try simp only [Cl.d] at *)
     unfold jR
     refine ah (gJ @c @z1 @hL @hx' @aY @e) ?_
     simp [Za, lk]
    rw [Zc, hs, aR]
    simp
  ·exact ih i (by omega) hi
theorem M3 {h : Zb} {L : DV} {xs : List Cl} {f : Nat} {cap : List DV} {P : Cl → Bool} (hL : vw h 3 L = some (xs.map Cl.d)) (hF : ∀ x, x ∈ xs → E X f (Cl.d x :: cap) h = some (.bool (P x), h)) (hb : xs.length ≤ 1000000) :
 E X 119 [L, .func f [] cap] h = some (.int .i64 (fidx P xs 0), h) := by
 rcases LQ hL hF hb xs.length 0 (by omega) (by omega) with ⟨ex, hc, hf⟩ | hc
 ·rw [List.drop_zero] at hf
  rw [hf]
  rw [show ((0 : Nat) : Int) = 0 from rfl] at hc
  rw [Zz (X := X) _ Bh _ rfl rfl]; unfold Bh
  refine rn @hL ?_
  refine aj ?_
  rw [hc]
  refine rn trivial ?_
  exact re trivial
 ·rw [List.drop_zero, show ((0 : Nat) : Int) = 0 from rfl] at hc
  rw [Zz (X := X) _ Bh _ rfl rfl]; unfold Bh
  generalize fidx P xs 0 = r at *
  refine rn @hL ?_
  refine aj ?_
  rw [hc]
  refine rn trivial ?_
  exact re trivial
theorem M2 {h : Zb} {b t : Nat} {nm : ByteArray} (hb : h[b]? = some (.box t [.str nm])) (c : Cl) : E X 120 [c.d, .ref b 0] h = some (.bool (c.nm == nm), h) := by
 have hlt := (List.getElem?_eq_some_iff.1 hb).1
 have bK : ∀ G, (h ++ G)[b]? = some (.box t [.str nm]) := fun G => by rw [List.getElem?_append_left hlt]; exact hb
 obtain ⟨xn, xk, xl⟩ := c
 simp only [Cl.d]
 rw [Zz (X := X) _ JC _ rfl rfl]; unfold JC; exact dO (aL @hb @bK)
theorem QL {C : DV} {s : Sch} (hC : ∀ g, vw g 3 C = some (s.cols.map Cl.d)) (hb : s.cols.length ≤ 1000) (nm : ByteArray) (H : Zb) : E X 80 [Yi C s, .str nm] H = some (.int .i64 (fidx (fun c => c.nm == nm) s.cols 0), H) := by
 obtain ⟨h, hh⟩ : ∃ h, h = H ++ [HO.box 24 (Yj C s), .box 9 [.str nm]] := ⟨_, rfl⟩
 have hb' : h[H.length + 1]? = some (.box 9 [.str nm]) := by rw [hh]; simp [ae]
 have Wj := M3 (h := h) (f := 120) (cap := [.ref (H.length + 1) 0]) (P := fun c => c.nm == nm) (hC h) (fun c _ => M2 hb' c) (by omega)
 subst hh
 obtain ⟨cols, k1, k2, k3, k4⟩ := s
 simp only [Yi, Yj] at *
 generalize fidx (fun c => c.nm == nm) cols 0 = r at *
 clear hb'
 rw [Zz (X := X) _ Qa _ rfl rfl]; unfold Qa; exact rg @Wj
def o8 {α : Type} (l : List α) (i : Int) : Option α := if 0 ≤ i then l[i.toNat]? else none
theorem o5 {α : Type} {l : List α} {i : Int} (h : ¬ (0 ≤ i ∧ i < l.length)) : o8 l i = none := by
 unfold o8
 split
 ·exact List.getElem?_eq_none (by omega)
 ·rfl
def eX (s : Sch) (i kind : Int) : Bool := match o8 s.cols i with
 | some c => !c.nl && (kind == 0 || c.kd == kind)
 | none => false
theorem zn {C : DV} {s : Sch} (hC : ∀ g, vw g 3 C = some (s.cols.map Cl.d)) (i kind : Int) (H : Zb) : E X 121 [Yi C s, .int .i64 i, .int .i64 kind] H = some (.bool (eX s i kind), H) := by
 by_cases c1 : 0 ≤ i
 ·obtain ⟨p, rfl⟩ : ∃ p : Nat, i = p := ⟨i.toNat, by omega⟩
  by_cases c2 : p < s.cols.length
  ·obtain ⟨c, hc⟩ : ∃ c, c = s.cols[p] := ⟨_, rfl⟩
   have hci : s.cols[p]? = some c := by rw [hc]; exact List.getElem?_eq_getElem c2
   have cW := hc.symm
   have hv : eX s p kind = (!c.nl && (kind == 0 || c.kd == kind)) := by
    unfold eX o8
    rw [if_pos c1, Int.toNat_natCast, hci]
   rw [hv]
   clear hv hc
   obtain ⟨cols, k1, k2, k3, k4⟩ := s
   obtain ⟨xn, xk, xl⟩ := c
   simp only [Yi, Yj] at *
   have c2 : p < cols.length := c2
   cases xl
   ·by_cases c3 : kind = 0
    ·subst c3
     rw [Zz (X := X) _ oF _ rfl rfl]; unfold oF; exact dO (ej @hC @c1 @c2 @hci @cW)
    ·have d3 : (kind == 0) = false := by simpa using c3
     rw [Zz (X := X) _ oF _ rfl rfl]; unfold oF; exact dO (fV @hC @c1 @c2 @hci @cW @c3 @d3)
   ·rw [Zz (X := X) _ oF _ rfl rfl]; unfold oF; exact dO (ej @hC @c1 @c2 @hci @cW)
  ·have d2 : ¬ (p : Int) < (s.cols.length : Int) := by omega
   have hv : eX s p kind = false := by unfold eX; rw [o5 (by omega)]
   rw [hv]
   obtain ⟨cols, k1, k2, k3, k4⟩ := s
   simp only [Yi, Yj] at *
   rw [Zz (X := X) _ oF _ rfl rfl]; unfold oF; exact dO (cP @hC @c1 @c2 @d2)
 ·have hv : eX s i kind = false := by unfold eX; rw [o5 (by omega)]
  rw [hv]
  obtain ⟨cols, k1, k2, k3, k4⟩ := s
  simp only [Yi, Yj] at *
  rw [Zz (X := X) _ oF _ rfl rfl]; unfold oF; exact dO (aL @hC @c1)
def oh (s : Sch) : Bool := if s.key = -1 then s.cmp == -1 && s.del == -1 else eX s s.key 0 && (eX s s.cmp 1 && (s.del == -1 || eX s s.del 3))
theorem QK {C : DV} {s : Sch} (hC : ∀ g, vw g 3 C = some (s.cols.map Cl.d)) (H : Zb) : E X 81 [Yi C s] H = some (.bool (oh s), H) := by
 have e1 := fun g => zn hC s.key 0 g
 have e2 := fun g => zn hC s.cmp 1 g
 have e3 := fun g => zn hC s.del 3 g
 unfold oh
 generalize eX s s.key 0 = v1 at *
 generalize eX s s.cmp 1 = v2 at *
 generalize eX s s.del 3 = v3 at *
 obtain ⟨cols, k1, k2, k3, k4⟩ := s
 simp only [Yi, Yj] at *
 by_cases c1 : k1 = -1
 ·subst c1
  by_cases c2 : k2 = -1
  ·subst c2
   rw [Zz (X := X) _ wO _ rfl rfl]; unfold wO; exact rg @e1
  ·have d2 : (k2 == -1) = false := by simpa using c2
   rw [Zz (X := X) _ wO _ rfl rfl]; unfold wO; exact rg (cH @e1 @c2 @d2)
 ·have d1 : (k1 == -1) = false := by simpa using c1
  by_cases c3 : k3 = -1
  ·subst c3
   cases v1 <;> cases v2
   all_goals
    rw [Zz (X := X) _ wO _ rfl rfl]; unfold wO; exact rg (ej @e1 @e2 @e3 @c1 @d1)
  ·have d3 : (k3 == -1) = false := by simpa using c3
   cases v1 <;> cases v2 <;> cases v3
   all_goals
    rw [Zz (X := X) _ wO _ rfl rfl]; unfold wO; exact rg (fV @e1 @e2 @e3 @c1 @d1 @c3 @d3)
def OX (s : Sch) (i : Int) : Bool := decide (0 ≤ i) && decide (i < s.cols.length)
def bU (s : Sch) (i : Nat) (c : Cl) : Bool := js c.nm && (decide (1 ≤ c.kd) && (decide (c.kd ≤ 3) && (fidx (fun x => x.nm == c.nm) s.cols 0 == (i : Int))))
def ky (s : Sch) : List Cl → Nat → Bool
 | [], _ => true
 | c :: l, i => bU s i c && ky s l (i + 1)
set_option maxHeartbeats 1000000 in
theorem PU {h : Zb} {Cd : DV} {s : Sch} {b i I : Nat} {c : Cl} (hC : ∀ g, vw g 3 Cd = some (s.cols.map Cl.d)) (hb : h[b]? = some (.box 24 (Yj Cd s))) (hl : s.cols.length ≤ 1000) (hc : s.cols[i]? = some c) (z1 : IntKind.i64.wrap ((i : Int) + 1) = (I : Int)) :
 C X ja [(1, .ref b 0), (6, Cd), (7, .int .i64 s.cols.length), (8, .int .i64 i)] h = some (if bU s i c = true then (.norm, [(1, .ref b 0), (6, Cd), (7, .int .i64 s.cols.length), (8, .int .i64 I)], h ++ [.box 61 c.d.cells]) else (.ret, [(2, .bool false)], h ++ [.box 61 c.d.cells])) := by
 obtain ⟨ci, hc1⟩ := List.getElem?_eq_some_iff.1 hc
 have l8 := fun g => QM c.nm g
 have yD := fun g => QL hC hl c.nm g
 have bK : ∀ G, (h ++ G)[b]? = some (.box 24 (Yj Cd s)) := fun G => by rw [List.getElem?_append_left (List.getElem?_eq_some_iff.1 hb).1]; exact hb
 cases h1 : js c.nm
 ·have hv : bU s i c = false := by simp [bU, h1]
  rw [hv, if_neg (by simp)]
  rw [h1] at l8
  obtain ⟨cn, ck, cl⟩ := c
  obtain ⟨cols, k1, k2, k3, k4⟩ := s
  simp only [Yi, Yj, Cl.d] at *
  have ci : i < cols.length := ci
  clear hv h1 yD
  unfold ja
  refine ah (iF @ci @z1 @hC @hc @hc1 @l8 @hb @bK) ?_
  simp [Za, lk, DV.cells]
 rw [h1] at l8
 by_cases h2 : 1 ≤ c.kd
 ·have d2 : ¬ c.kd < 1 := by omega
  by_cases h3 : c.kd ≤ 3
  ·have d3 : ¬ 3 < c.kd := by omega
   obtain ⟨r, hr⟩ : ∃ r, r = fidx (fun x : Cl => x.nm == c.nm) s.cols 0 := ⟨_, rfl⟩
   rw [← hr] at yD
   by_cases h4 : r = (i : Int)
   ·have hv : bU s i c = true := by simp [bU, h1, h2, h3, ← hr, h4]
    rw [hv, if_pos rfl]
    subst h4
    obtain ⟨cn, ck, cl⟩ := c
    obtain ⟨cols, k1, k2, k3, k4⟩ := s
    simp only [Yi, Yj, Cl.d] at *
    have ci : i < cols.length := ci
    clear hv h1 hr
    unfold ja
    refine ah (dK @ci @z1 @hC @hc @hc1 @l8 @yD @d2 @d3 @hb @bK) ?_
    simp [Za, lk, DV.cells]
   ·have d4 : (r != (i : Int)) = true := by simpa using h4
    have hv : bU s i c = false := by simp [bU, h1, h2, h3, ← hr, h4]
    rw [hv, if_neg (by simp)]
    obtain ⟨cn, ck, cl⟩ := c
    obtain ⟨cols, k1, k2, k3, k4⟩ := s
    simp only [Yi, Yj, Cl.d] at *
    have ci : i < cols.length := ci
    clear hv h1 hr
    unfold ja
    refine ah (jD @ci @z1 @hC @hc @hc1 @l8 @yD @d2 @d3 @d4 @h4 @hb @bK) ?_
    simp [Za, lk, DV.cells]
  ·have d3 : 3 < c.kd := by omega
   have hv : bU s i c = false := by simp [bU, h3]
   rw [hv, if_neg (by simp)]
   obtain ⟨cn, ck, cl⟩ := c
   obtain ⟨cols, k1, k2, k3, k4⟩ := s
   simp only [Yi, Yj, Cl.d] at *
   have ci : i < cols.length := ci
   clear hv h1 yD
   unfold ja
   refine ah (dL @ci @z1 @hC @hc @hc1 @l8 @d2 @d3 @hb @bK) ?_
   simp [Za, lk, DV.cells]
 ·have d2 : c.kd < 1 := by omega
  have hv : bU s i c = false := by simp [bU, h2]
  rw [hv, if_neg (by simp)]
  obtain ⟨cn, ck, cl⟩ := c
  obtain ⟨cols, k1, k2, k3, k4⟩ := s
  simp only [Yi, Yj, Cl.d] at *
  have ci : i < cols.length := ci
  clear hv h1 yD
  unfold ja
  refine ah (gI @ci @z1 @hC @hc @hc1 @l8 @d2 @hb @bK) ?_
  simp [Za, lk, DV.cells]
theorem NH {Cd : DV} {s : Sch} {b : Nat} (hC : ∀ g, vw g 3 Cd = some (s.cols.map Cl.d)) (hl : s.cols.length ≤ 1000) :
 ∀ (k i : Nat) (h : Zb), s.cols.length - i ≤ k → i ≤ s.cols.length → h[b]? = some (.box 24 (Yj Cd s)) → (∃ ex G, C X (.loop ja) [(1, .ref b 0), (6, Cd), (7, .int .i64 s.cols.length), (8, .int .i64 i)] h = some (.exit 0, (1, .ref b 0) :: ex, h ++ G) ∧ ky s (s.cols.drop i) i = true) ∨ (∃ G, C X (.loop ja) [(1, .ref b 0), (6, Cd), (7, .int .i64 s.cols.length), (8, .int .i64 i)] h = some (.ret, [(2, .bool false)], h ++ G) ∧ ky s (s.cols.drop i) i = false) := by
 intro k
 induction k with
 | zero =>
  intro i h hk hi hb
  obtain rfl : i = s.cols.length := by omega
  refine .inl ⟨[(6, Cd), (7, .int .i64 s.cols.length), (8, .int .i64 s.cols.length), (9, .bool false)], [], ?_, by simp [ky]⟩
  rw [Zc]
  unfold ja
  refine rn trivial ?_
  rw [Zw]
  simp [Za, lk]
 | succ k ih =>
  intro i h hk hi hb
  by_cases c : i < s.cols.length
  ·obtain ⟨I, hI⟩ : ∃ I, I = i + 1 := ⟨_, rfl⟩
   have z1 : IntKind.i64.wrap ((i : Int) + 1) = (I : Int) := wr
   obtain ⟨x, hx⟩ : ∃ x, x = s.cols[i] := ⟨_, rfl⟩
   have aY : s.cols[i]? = some x := by rw [hx]; exact List.getElem?_eq_getElem c
   have hd : s.cols.drop i = x :: s.cols.drop I := by rw [List.drop_eq_getElem_cons c, ← hx, hI]
   have hbd := PU hC hb hl aY z1
   rw [hd, ky, Zc, hbd]
   cases h0 : bU s i x
   ·right
    rw [if_neg (by simp), aR]
    exact ⟨_, rfl, rfl⟩
   ·rw [if_pos rfl, ZB, ← hI, Bool.true_and]
    rcases ih I (h ++ [.box 61 x.d.cells]) (by omega) (by omega) (by rw [List.getElem?_append_left (List.getElem?_eq_some_iff.1 hb).1]; exact hb) with ⟨ex, G, h1, h2⟩ | ⟨G, h1, h2⟩
    ·exact .inl ⟨ex, _, by rw [h1, List.append_assoc], h2⟩
    ·exact .inr ⟨_, by rw [h1, List.append_assoc], h2⟩
  ·exact ih i h (by omega) hi hb
def cC (s : Sch) : Bool := ky s s.cols 0 && (decide (1 ≤ s.cols.length) && (decide (s.cols.length ≤ 8) && (oh s && (decide (-1 ≤ s.sort) && decide (s.sort < s.cols.length)))))
set_option maxHeartbeats 1000000 in
theorem J2 {Cd : DV} {s : Sch} (hC : ∀ g, vw g 3 Cd = some (s.cols.map Cl.d)) (hl : s.cols.length ≤ 1000) (H : Zb) : E X 53 [Yi Cd s] H = some (.bool (cC s), H) := by
 have Gg := fun g => QK hC g
 rcases NH (b := H.length) hC hl s.cols.length 0 (H ++ [.box 24 (Yj Cd s)]) (by omega) (by omega) (by simp) with ⟨ex, G, hc, hf⟩ | ⟨G, hc, hf⟩
 ·rw [List.drop_zero] at hf
  rw [show ((0 : Nat) : Int) = 0 from rfl] at hc
  have bK : (H ++ [HO.box 24 (Yj Cd s)] ++ G)[H.length]? = some (.box 24 (Yj Cd s)) := by rw [List.append_assoc]; simp
  generalize hh2 : H ++ [HO.box 24 (Yj Cd s)] ++ G = h2 at hc bK
  have aD : ∀ bb : Bool, fin H h2 [.bool bb] = (.bool bb, H) := by
   intro bb
   have ht : h2.take H.length = H := by rw [← hh2, List.append_assoc, List.take_append_of_le_length (Nat.le_refl _)]; exact List.take_length
   simp [fin, ht, aJ, aO]
  have key : ∀ bb, cC s = bb → (∀ (r : DV), True) → True := fun _ _ _ => trivial
  have hm : cC s = (decide (1 ≤ s.cols.length) && (decide (s.cols.length ≤ 8) && (oh s && (decide (-1 ≤ s.sort) && decide (s.sort < s.cols.length))))) := by rw [cC, hf, Bool.true_and]
  rw [hm]
  clear hm hf hh2 key
  generalize oh s = kv at *
  obtain ⟨cols, k1, k2, k3, k4⟩ := s
  simp only [Yi, Yj] at *
  rw [Zz (X := X) _ GN _ rfl rfl]; unfold GN
  refine rn @hC ?_
  refine aj ?_
  rw [hc]
  by_cases c1 : 1 ≤ cols.length
  ·by_cases c2 : cols.length ≤ 8
   ·have d1 : (1 : Int) ≤ (cols.length : Int) := by omega
    have d2 : (cols.length : Int) ≤ 8 := by omega
    cases kv
    ·refine rn (fV @hC @bK @c1 @c2 @d1 @d2 @Gg) ?_
     rw [Zn]
     simp [ZW, lk, Za, aD, c1, c2]
    ·by_cases c3 : -1 ≤ k4
     ·refine rn (iF @hC @bK @c1 @c2 @d1 @d2 @c3 @Gg) ?_
      rw [Zn]
      simp [ZW, lk, Za, aD, c1, c2, c3]
     ·refine rn (iF @hC @bK @c1 @c2 @d1 @d2 @c3 @Gg) ?_
      rw [Zn]
      simp [ZW, lk, Za, aD, c1, c2, c3]
   ·have d1 : (1 : Int) ≤ (cols.length : Int) := by omega
    have d2 : ¬ (cols.length : Int) ≤ 8 := by omega
    refine rn (gJ @hC @bK @c1 @c2 @d1 @d2) ?_
    rw [Zn]
    simp [ZW, lk, Za, aD, c1, c2]
  ·have d1 : ¬ (1 : Int) ≤ (cols.length : Int) := by omega
   refine rn (cP @hC @bK @c1 @d1) ?_
   rw [Zn]
   simp [ZW, lk, Za, aD, c1]
 ·rw [List.drop_zero] at hf
  rw [show ((0 : Nat) : Int) = 0 from rfl] at hc
  have hm : cC s = false := by rw [cC, hf, Bool.false_and]
  rw [hm]
  clear hm hf
  obtain ⟨cols, k1, k2, k3, k4⟩ := s
  simp only [Yi, Yj] at *
  rw [Zz (X := X) _ GN _ rfl rfl]; unfold GN
  refine rn @hC ?_
  refine aj ?_
  rw [hc]
  refine rn trivial ?_
  exact re trivial
abbrev Wx (x : Int × Int) : DV := .agg [.int .i64 x.1, .int .i64 x.2]
structure Qry where
 filter : List N
 cols : List Int
 group : List Int
 aggs : List (Int × Int)
 sort : List (Int × Bool)
 Yw : Int
def tr (A : DV) (l : List Int) : Prop := (∃ c, A = .list 1 (l.map intD) c) ∨ (A = .nils ∧ l = [])
theorem tr.vw {A : DV} {l : List Int} (h : tr A l) (g : Zb) : vw g 1 A = some (l.map intD) := by
 rcases h with ⟨c, rfl⟩ | ⟨rfl, rfl⟩ <;> rfl
theorem tr.one {A : DV} {l : List Int} (h : tr A l) : A.one = true := by
 rcases h with ⟨c, rfl⟩ | ⟨rfl, rfl⟩ <;> rfl
theorem Le (l : List Int) : ∀ x ∈ l.map intD, Nr x := fun x hx => by
 obtain ⟨n, _, rfl⟩ := List.mem_map.1 hx
 exact .int _ _
theorem tr.nr {A : DV} {l : List Int} (h : tr A l) : Nr A := by
 rcases h with ⟨c, rfl⟩ | ⟨rfl, rfl⟩
 ·exact .list (Le l)
 ·exact .nils
theorem tr.elt {A B : DV} {l m : List Int} (h : tr A l) (h2 : tr B m) (g : Zb) : bL [A, B] g = some ([A, B], g) := by
 rcases h with ⟨c, rfl⟩ | ⟨rfl, rfl⟩ <;> rcases h2 with ⟨c2, rfl⟩ | ⟨rfl, rfl⟩ <;> rfl
structure QV (H : Zb) (F Cn Gr Ag So : DV) (q : Qry) : Prop where
 f : ∀ G, vw (H ++ G) 8 F = some (q.filter.map N.d)
 c : tr Cn q.cols
 g : tr Gr q.group
 a : ∀ h, vw h 2 Ag = some (q.aggs.map Wx)
 s : ∀ h, vw h 2 So = some (q.sort.map Wq)
 nf : q.filter.length ≤ 1000
 nc : q.cols.length ≤ 1000
 ng : q.group.length ≤ 1000
 na : q.aggs.length ≤ 1000
 ns : q.sort.length ≤ 1000
theorem QV.ext {H : Zb} {F Cn Gr Ag So : DV} {q : Qry} (h : QV H F Cn Gr Ag So q) (G : Zb) : QV (H ++ G) F Cn Gr Ag So q :=
 { h with f := fun G' => by rw [List.append_assoc]; exact h.f _ }
theorem IE {s : Sch} {i : Int} {c : Cl} (hg : o8 s.cols i = some c) : OX s i = true ∧ ∃ p : Nat, i = p ∧ s.cols[p]? = some c ∧ ∃ pl : p < s.cols.length, s.cols[p] = c := by
 unfold o8 at hg
 split at hg
 case isFalse => cases hg
 rename_i p0
 obtain ⟨pl, he⟩ := List.getElem?_eq_some_iff.1 hg
 have : i < (s.cols.length : Int) := by omega
 exact ⟨by simp [OX, p0, this], i.toNat, by omega, hg, pl, he⟩
theorem NZ {h : Zb} {Cd : DV} {s : Sch} {b : Nat} (hC : ∀ g, vw g 3 Cd = some (s.cols.map Cl.d)) (hb : h[b]? = some (.box 24 (Yj Cd s))) (hl : s.cols.length ≤ 1000) :
 ∀ (k i : Nat), s.cols.length - i ≤ k → i ≤ s.cols.length → (∃ ex, C X (.loop lR) [(1, .ref b 0), (3, .int .i64 i)] h = some (.exit 0, (1, .ref b 0) :: ex, h)) ∨ C X (.loop lR) [(1, .ref b 0), (3, .int .i64 i)] h = some (.ret, [(2, .bool false)], h) := by
 obtain ⟨cols, k1, k2, k3, k4⟩ := s
 simp only [Yj] at *
 intro k
 induction k with
 | zero =>
  intro i hk hi
  obtain rfl : i = cols.length := by omega
  refine .inl ⟨[(3, .int .i64 cols.length), (12, .bool false)], ?_⟩
  rw [Zc]
  unfold lR
  refine ah (aL @hC @hb) ?_
  rw [Zw]
  simp [Za, lk]
 | succ k ih =>
  intro i hk hi
  by_cases c : i < cols.length
  ·obtain ⟨I, hI⟩ : ∃ I, I = i + 1 := ⟨_, rfl⟩
   have z1 : IntKind.i64.wrap ((i : Int) + 1) = (I : Int) := wr
   obtain ⟨x, hx⟩ : ∃ x, x = cols[i] := ⟨_, rfl⟩
   have aY : cols[i]? = some x := by rw [hx]; exact List.getElem?_eq_getElem c
   have hx' := hx.symm
   by_cases d : 100 < x.nm.size
   ·right
    have d' : (100 : Int) < (x.nm.size : Int) := by omega
    have hs : C X lR [(1, .ref b 0), (3, .int .i64 i)] h = some (.ret, [(2, .bool false)], h) := by
     clear ih hx
     obtain ⟨cn, ck, cl⟩ := x
     simp only [Cl.d] at *
     unfold lR
     refine ah (iF @c @z1 @hC @hb @hx' @aY @d @d') ?_
     simp [Za, lk]
    rw [Zc, hs, aR]
   ·have d' : ¬ (100 : Int) < (x.nm.size : Int) := by omega
    have hs : C X lR [(1, .ref b 0), (3, .int .i64 i)] h = some (.norm, [(1, .ref b 0), (3, .int .i64 I)], h) := by
     clear ih hx
     obtain ⟨cn, ck, cl⟩ := x
     simp only [Cl.d] at *
     unfold lR
     refine ah (iF @c @z1 @hC @hb @hx' @aY @d @d') ?_
     simp [Za, lk]
    rw [Zc, hs, ZB]
    exact ih I (by omega) (by omega)
  ·exact ih i (by omega) hi
theorem Rq {Cd : DV} {s : Sch} (hC : ∀ g, vw g 3 Cd = some (s.cols.map Cl.d)) (H : Zb) : ∃ bb, E X 10 [Yi Cd s] H = some (.bool bb, H) ∧ (bb = true → s.cols.length ≤ 12) := by
 by_cases c : 12 < s.cols.length
 ·refine ⟨false, ?_, fun h => by cases h⟩
  have d : (12 : Int) < (s.cols.length : Int) := by omega
  obtain ⟨cols, k1, k2, k3, k4⟩ := s
  simp only [Yi, Yj] at *
  rw [Zz (X := X) _ tq _ rfl rfl]; unfold tq; exact rg (cH @hC @c @d)
 ·have d : ¬ (12 : Int) < (s.cols.length : Int) := by omega
  rcases NZ (b := H.length) (h := H ++ [.box 24 (Yj Cd s)]) hC (by simp) (by omega) s.cols.length 0 (by omega) (by omega) with ⟨ex, hc⟩ | hc
  ·refine ⟨true, ?_, fun _ => by omega⟩
   rw [show ((0 : Nat) : Int) = 0 from rfl] at hc
   obtain ⟨cols, k1, k2, k3, k4⟩ := s
   simp only [Yi, Yj] at *
   rw [Zz (X := X) _ tq _ rfl rfl]; unfold tq
   refine rn (cH @hC @c @d) ?_
   refine aj ?_
   rw [hc]
   refine rn trivial ?_
   exact re trivial
  ·refine ⟨false, ?_, fun h => by cases h⟩
   rw [show ((0 : Nat) : Int) = 0 from rfl] at hc
   obtain ⟨cols, k1, k2, k3, k4⟩ := s
   simp only [Yi, Yj] at *
   rw [Zz (X := X) _ tq _ rfl rfl]; unfold tq
   refine rn (cH @hC @c @d) ?_
   refine aj ?_
   rw [hc]
   refine rn trivial ?_
   exact re trivial
end Go.Proofs.YtmbgfbomgbdjeaaGreatDoor
