/- Ideal runs. -/
import Derived.Test.YtmbgfbomgbdjeaaGreatDoorStep
import Derived.Test.YtmbgfbomgbdjeaaGreatDoorPlainB
import Derived.Test.YtmbgfbomgbdjeaaGreatDoorNod
import Derived.Test.YtmbgfbomgbdjeaaGreatDoorColT
namespace Go.Proofs.YtmbgfbomgbdjeaaGreatDoor
attribute [local go_sem] ZK ZF ZE ZG Zs Zi Zp Zl Zn Ze Zf Zm Zt Zu ZH Zr Zj ZD Zz Zy ZW ZA Yo put lk Od.v Za Zg Zo aj Yd Ye Yc au eqk DV.isU DV.cells ae ZP Ya ZO Zq splice ZQ af ZX eqs bh bV bQ aV bS bg aU aZ bR aW bU aY bf aX bW bY bP YA YB
attribute [local go_sem ↓] Zk
set_option linter.unusedVariables false
set_option linter.unusedSimpArgs false
set_option maxRecDepth 10000
def kL (b : Nat) : Bool := (decide (97 ≤ b) && decide (b ≤ 122)) || (decide (48 ≤ b) && decide (b ≤ 57)) || decide (b = 95)
def aM : ByteArray := ⟨#[97, 98, 99, 100, 101, 102, 103, 104, 105, 106, 107, 108, 109, 110, 111, 112, 113, 114, 115, 116, 117, 118, 119, 120, 121, 122, 48, 49, 50, 51, 52, 53, 54, 55, 56, 57, 95]⟩
def eu : List DV := (List.range 256).map fun c => .bool (kL c)
theorem L1 (c : Nat) (hc : c < 256) : eu[c]? = some (.bool (kL c)) := by simp [eu, hc]
theorem D8 {h : Zb} {a : Nat} (hA : h[a]? = some (.box 160 eu)) (c : Nat) (hc : c < 256) : E X 153 [.ref a 0, .int .u8 c] h = some (.bool (kL c), h) := by
 have hs := L1 c hc
 have h1 : (0 : Int) ≤ (c : Int) := by omega
 have h2 : (c : Int) < 256 := by omega
 rw [Zv (X := X) _ IB _ rfl rfl]; unfold IB; exact d8 (eP @hA @hs @hc @h1 @h2)
def gP (s : ByteArray) (j : Nat) : Bool := kL (s.data.toList.getD j 0).toNat
theorem nK {s : ByteArray} {j : Nat} {b : UInt8} (h : s.data.toList[j]? = some b) : gP s j = kL b.toNat := by
 rw [gP, List.getD_eq_getElem?_getD, h]; rfl
theorem ext_toList (s : ByteArray) (a b : Nat) : (s.extract a b).data.toList = (s.data.toList.take b).drop a := by
 rw [ByteArray.data_extract, Array.toList_extract, List.extract_eq_take_drop, List.drop_take]
theorem Le {h : Zb} {a : Nat} {s : ByteArray} (hA : h[a]? = some (.box 160 eu)) (hb : s.size ≤ 1000000) :
 ∀ k, k ≤ s.size → ∃ m ex, m ≤ k ∧ (m = 0 ∨ gP s (m - 1) = false) ∧ (∀ j, m ≤ j → j < k → gP s j = true) ∧ C X (.loop nI) [(0, .str (s.extract 0 k)), (1, .ref a 0)] h = some (.exit 0, (0, .str (s.extract 0 m)) :: ex, h) := by
 intro k
 induction k with
 | zero =>
  intro _
  refine ⟨0, [(1, .ref a 0), (7, .bool false)], Nat.le_refl _, .inl rfl, fun j h1 h2 => by omega, ?_⟩
  obtain ⟨t, ht⟩ : ∃ t, t = s.extract 0 0 := ⟨_, rfl⟩
  have hz : t.size = 0 := by rw [ht, ByteArray.size_extract]; omega
  rw [← ht]
  clear ht
  rw [Zc]
  unfold nI
  refine uk trivial ?_
  rw [Zx]
  simp [Za, lk]
 | succ k ih =>
  intro hk
  obtain ⟨m, ex, h1, h2, h3, h4⟩ := ih (by omega)
  obtain ⟨t, ht⟩ : ∃ t, t = s.extract 0 (k + 1) := ⟨_, rfl⟩
  obtain ⟨u, hu⟩ : ∃ u, u = s.extract 0 k := ⟨_, rfl⟩
  obtain ⟨K, hK⟩ : ∃ K, K = k + 1 := ⟨_, rfl⟩
  have hz : t.size = K := by rw [ht, ByteArray.size_extract]; omega
  have z1 : IntKind.i64.wrap ((K : Int) - 1) = (k : Int) := wr
  have hsl : s.data.toList.length = s.size := by show s.data.toList.length = s.data.size; exact Array.length_toList
  obtain ⟨b, hbb⟩ : ∃ b, b = s.data.toList[k]'(by omega) := ⟨_, rfl⟩
  have hsb : s.data.toList[k]? = some b := by rw [hbb]; exact List.getElem?_eq_getElem _
  have hg : t.data.toList[k]? = some b := by rw [ht, ext_toList, List.drop_zero, List.getElem?_take, if_pos (by omega)]; exact hsb
  have hg' : t.data[k]? = some b := by rw [← Array.getElem?_toList]; exact hg
  have hx : t.extract 0 k = u := by
   rw [ht, hu, ByteArray.extract_extract]
   congr 1
   omega
  have hl := nK hsb
  have vL := D8 hA b.toNat b.toNat_lt
  have k0 : (0 : Int) < (K : Int) := by omega
  have k1 : 0 < K := by omega
  have k2 : k ≤ K := by omega
  rw [← hu] at h4
  rw [← ht]
  cases hq : kL b.toNat
  ·rw [hq] at hl vL
   refine ⟨k + 1, [(1, .ref a 0), (15, .bool true)], Nat.le_refl _, .inr hl, fun j q1 q2 => by omega, ?_⟩
   rw [← ht]
   clear ht hu hbb h3 h4 ih hsb hK
   rw [Zc]
   unfold nI
   refine uk (eO @z1 @hg @hg' @vL @k0 @k1) ?_
   rw [Zx]
   simp [Za, lk]
  ·rw [hq] at hl vL
   refine ⟨m, ex, by omega, h2, fun j q1 q2 => ?_, ?_⟩
   ·by_cases c : j = k
    ·rw [c]; exact hl
    ·exact h3 j q1 (by omega)
   ·have hs : C X nI [(0, .str t), (1, .ref a 0)] h = some (.norm, [(0, .str u), (1, .ref a 0)], h) := by
     clear ht hu hbb h3 h4 ih hsb hK
     unfold nI
     refine MI (ga @z1 @hg @hg' @vL @k0 @k1 @k2 @hx) ?_
     simp [Za, lk]
    rw [Zc, hs, ZB]
    exact h4
theorem Lf {h : Zb} {a : Nat} {s : ByteArray} (hA : h[a]? = some (.box 160 eu)) (hb : s.size ≤ 1000000) :
 ∀ k j, s.size - j ≤ k → j ≤ s.size → ∃ p ex, j ≤ p ∧ p ≤ s.size ∧ (p = s.size ∨ gP s p = false) ∧ (∀ q, j ≤ q → q < p → gP s q = true) ∧ C X (.loop nJ) [(0, .str (s.extract j s.size)), (1, .ref a 0)] h = some (.exit 0, (0, .str (s.extract p s.size)) :: ex, h) := by
 intro k
 induction k with
 | zero =>
  intro j h1 h2
  obtain rfl : j = s.size := by omega
  refine ⟨s.size, [(1, .ref a 0), (7, .bool false)], Nat.le_refl _, Nat.le_refl _, .inl rfl, fun j h1 h2 => by omega, ?_⟩
  obtain ⟨t, ht⟩ : ∃ t, t = s.extract s.size s.size := ⟨_, rfl⟩
  have hz : t.size = 0 := by rw [ht, ByteArray.size_extract]; omega
  rw [← ht]
  clear ht
  rw [Zc]
  unfold nJ
  refine uk trivial ?_
  rw [Zx]
  simp [Za, lk]
 | succ k ih =>
  intro j h1 h2
  by_cases c : j < s.size
  ·obtain ⟨p, ex, i1, i2, i3, i4, i5⟩ := ih (j + 1) (by omega) (by omega)
   obtain ⟨t, ht⟩ : ∃ t, t = s.extract j s.size := ⟨_, rfl⟩
   obtain ⟨u, hu⟩ : ∃ u, u = s.extract (j + 1) s.size := ⟨_, rfl⟩
   obtain ⟨K, hK⟩ : ∃ K, K = s.size - j := ⟨_, rfl⟩
   have hz : t.size = K := by rw [ht, ByteArray.size_extract]; omega
   have hsl : s.data.toList.length = s.size := by show s.data.toList.length = s.data.size; exact Array.length_toList
   obtain ⟨b, hbb⟩ : ∃ b, b = s.data.toList[j]'(by omega) := ⟨_, rfl⟩
   have hsb : s.data.toList[j]? = some b := by rw [hbb]; exact List.getElem?_eq_getElem _
   have hg : t.data.toList[0]? = some b := by rw [ht, ext_toList, List.getElem?_drop, Nat.add_zero, List.getElem?_take, if_pos (by omega)]; exact hsb
   have hg' : t.data[0]? = some b := by rw [← Array.getElem?_toList]; exact hg
   have hg2 : ∀ hb : 0 < t.data.size, t.data[0]'hb = b := fun hb => by rw [Array.getElem?_eq_getElem hb] at hg'; injection hg'
   have hx : t.extract 1 K = u := by
    rw [ht, hu, ByteArray.extract_extract]
    congr 1
    omega
   have hl := nK hsb
   have vL := D8 hA b.toNat b.toNat_lt
   have k0 : (0 : Int) < (K : Int) := by omega
   have k1 : 0 < K := by omega
   have k2 : 1 ≤ K := by omega
   rw [← hu] at i5
   rw [← ht]
   cases hq : kL b.toNat
   ·rw [hq] at hl vL
    refine ⟨j, [(1, .ref a 0), (12, .bool true)], Nat.le_refl _, h2, .inr hl, fun q q1 q2 => by omega, ?_⟩
    rw [← ht]
    clear ht hu hbb i4 i5 ih hsb hK
    rw [Zc]
    unfold nJ
    refine uk (eO @hg @hg' @hg2 @vL @k0 @k1) ?_
    rw [Zx]
    simp [Za, lk]
   ·rw [hq] at hl vL
    refine ⟨p, ex, by omega, i2, i3, fun q q1 q2 => ?_, ?_⟩
    ·by_cases c : q = j
     ·rw [c]; exact hl
     ·exact i4 q (by omega) q2
    ·have hs : C X nJ [(0, .str t), (1, .ref a 0)] h = some (.norm, [(0, .str u), (1, .ref a 0)], h) := by
      clear ht hu hbb i4 i5 ih hsb hK
      unfold nJ
      refine MI (ga @hg @hg' @hg2 @vL @k0 @k1 @k2 @hx) ?_
      simp [Za, lk]
     rw [Zc, hs, ZB]
     exact i5
  ·exact ih j (by omega) h2
theorem Mq {h : Zb} {a : Nat} {s : ByteArray} (hA : h[a]? = some (.box 160 eu)) (hb : s.size ≤ 1000000) : ∃ m, m ≤ s.size ∧ (m = 0 ∨ gP s (m - 1) = false) ∧ (∀ j, m ≤ j → j < s.size → gP s j = true) ∧ E X 140 [.str s, .ref a 0] h = some (.str (s.extract 0 m), h) := by
 obtain ⟨m, ex, h1, h2, h3, h4⟩ := Le hA hb s.size (Nat.le_refl _)
 rw [ByteArray.extract_zero_size] at h4
 refine ⟨m, h1, h2, h3, ?_⟩
 generalize s.extract 0 m = t at *
 rw [Zv (X := X) _ IL _ rfl rfl]; unfold IL
 refine rn trivial ?_
 refine Yy ?_
 rw [h4]
 refine rn trivial ?_
 exact re trivial
theorem Mr {h : Zb} {a : Nat} {s : ByteArray} (hA : h[a]? = some (.box 160 eu)) (hb : s.size ≤ 1000000) : ∃ p, p ≤ s.size ∧ (p = s.size ∨ gP s p = false) ∧ (∀ q, q < p → gP s q = true) ∧ E X 139 [.str s, .ref a 0] h = some (.str (s.extract p s.size), h) := by
 obtain ⟨p, ex, _, h1, h2, h3, h4⟩ := Lf hA hb s.size 0 (by omega) (by omega)
 rw [ByteArray.extract_zero_size] at h4
 refine ⟨p, h1, h2, fun q hq => h3 q (by omega) hq, ?_⟩
 generalize s.extract p s.size = t at *
 rw [Zv (X := X) _ IP _ rfl rfl]; unfold IP
 refine rn trivial ?_
 refine Yy ?_
 rw [h4]
 refine rn trivial ?_
 exact re trivial
def cV (i : Nat) : List DV := (List.range 256).map fun c => .bool ((aM.data.toList.take i).any fun x => x.toNat == c)
theorem mq (i : Nat) : (cV i).length = 256 := by simp [cV]
theorem yw (i : Nat) : (cV i).all DV.one = true := by simp [cV, DV.one]
theorem Df : cV 0 = qv 256 (.bool false) := by
 unfold cV qv
 apply List.ext_getElem?
 intro i
 rw [List.getElem?_replicate, List.getElem?_map]
 by_cases c : i < 256
 ·rw [List.getElem?_range c, if_pos c]; rfl
 ·rw [List.getElem?_eq_none (by simpa using c), if_neg c]; rfl
theorem kG : cV 37 = eu := by
 unfold cV eu
 apply List.map_congr_left
 intro c hc
 rw [List.mem_range] at hc
 have h : ∀ c : Fin 256, ((aM.data.toList.take 37).any fun x => x.toNat == c.val) = kL c.val := by decide +kernel
 rw [h ⟨c, hc⟩]
theorem Dg {i : Nat} {b : UInt8} (h : aM.data.toList[i]? = some b) : splice (cV i) b.toNat [.bool true] = cV (i + 1) := by
 have hb := b.toNat_lt
 obtain ⟨hi, vu⟩ := List.getElem?_eq_some_iff.1 h
 have ht : aM.data.toList.take (i + 1) = aM.data.toList.take i ++ [b] := by rw [List.take_add_one, h]; rfl
 apply List.ext_getElem?
 intro j
 have h1 : splice (cV i) b.toNat [.bool true] = (cV i).set b.toNat (.bool true) := by
  rw [List.set_eq_take_append_cons_drop, if_pos (by rw [mq]; exact hb)]
  simp [splice]
 rw [h1, List.getElem?_set]
 by_cases c1 : b.toNat = j
 ·subst c1
  rw [if_pos rfl, if_pos (by rw [mq]; exact hb)]
  unfold cV
  rw [List.getElem?_map, List.getElem?_range hb, ht]
  simp
 ·rw [if_neg c1]
  unfold cV
  rw [List.getElem?_map, List.getElem?_map, ht]
  by_cases c2 : j < 256
  ·rw [List.getElem?_range c2]
   have : (b.toNat == j) = false := by simpa using c1
   simp [this]
  ·rw [List.getElem?_eq_none (by simpa using c2)]
   rfl
theorem yD : ∀ i : Fin 37, ∃ b, aM.data.toList[i.val]? = some b ∧ b.toNat < 128 := by
 intro i
 have h : ∀ i : Fin 37, (aM.data.toList[i.val]?.map fun b => decide (b.toNat < 128)) = some true := by decide +kernel
 have h1 := h i
 cases hb : aM.data.toList[i.val]? with
 | none => rw [hb] at h1; cases h1
 | some b =>
  rw [hb] at h1
  refine ⟨b, rfl, ?_⟩
  simpa using h1
theorem Lg (H : Zb) : ∀ (k i : Nat), 37 - i ≤ k → i ≤ 37 → ∃ ex, C X (.loop pV) [(0, .str aM), (2, .ref H.length 0), (4, .int .i64 i)] (H ++ [.box 160 (cV i)]) = some (.exit 0, (0, .str aM) :: (2, .ref H.length 0) :: ex, H ++ [.box 160 eu]) := by
 have hz : aM.size = 37 := rfl
 intro k
 induction k with
 | zero =>
  intro i hk hi
  obtain rfl : i = 37 := by omega
  refine ⟨[(4, .int .i64 37), (9, .bool false)], ?_⟩
  rw [kG]
  rw [Zc]
  unfold pV
  generalize aM = L at *
  generalize eu = sc at *
  refine uk trivial ?_
  rw [Zx]
  simp [Za, lk]
 | succ k ih =>
  intro i hk hi
  by_cases c : i < 37
  ·obtain ⟨I, hI⟩ : ∃ I, I = i + 1 := ⟨_, rfl⟩
   have z1 : IntKind.i64.wrap ((i : Int) + 1) = (I : Int) := wr
   obtain ⟨b, hg, hb⟩ := yD ⟨i, c⟩
   simp only at hg
   have hst := Dg hg
   rw [← hI] at hst
   obtain ⟨ex, hc⟩ := ih I (by omega) (by omega)
   refine ⟨ex, ?_⟩
   have hg' : aM.data[i]? = some b := by rw [← Array.getElem?_toList]; exact hg
   have hg2 : ∀ hb : i < aM.data.size, aM.data[i]'hb = b := fun hb => by rw [Array.getElem?_eq_getElem hb] at hg'; injection hg'
   have c1 : (i : Int) < 37 := by omega
   have d1 : ¬ (128 : Int) ≤ (b.toNat : Int) := by omega
   have d2 : ¬ 128 ≤ b.toNat := by omega
   have d3 : (0 : Int) ≤ (b.toNat : Int) := by omega
   have d4 : (b.toNat : Int) < 256 := by omega
   have d5 : b.toNat < 256 := by omega
   have d6 : b.toNat + 1 ≤ 256 := by omega
   have hl := mq i
   have hs : C X pV [(0, .str aM), (2, .ref H.length 0), (4, .int .i64 i)] (H ++ [.box 160 (cV i)]) = some (.norm, [(0, .str aM), (2, .ref H.length 0), (4, .int .i64 I)], H ++ [.box 160 (cV I)]) := by
    clear ih hc hI
    rw [← hst]
    clear hst
    unfold pV
    generalize aM = L at *
    generalize cV i = cs at *
    refine uk (ja @z1 @hg @hg' @hg2 @c @c1 @d1 @d2 @d3 @d4 @d5 @d6 @hl) ?_
    simp [Za, lk, splice]
   rw [Zc, hs, ZB]
   exact hc
  ·exact ih i (by omega) hi
theorem z8 (n : Nat) : ∀ (cs : List DV) (h : Zb), (∀ x ∈ cs, ∃ b, x = .bool b) → dr n cs h = some (cs, h)
 | [], _, _ => rfl
 | c :: cs, h, hn => by
  obtain ⟨b, rfl⟩ := hn c List.mem_cons_self
  have := z8 n cs h fun x hx => hn x (List.mem_cons_of_mem _ hx)
  simp [dr, aJ, this]
theorem Ms (H : Zb) : E X 138 [.str aM] H = some (.tup [.agg eu, .bool true], H) := by
 obtain ⟨ex, hc⟩ := Lg H 37 0 (by omega) (by omega)
 rw [Df, show ((0 : Nat) : Int) = 0 from rfl] at hc
 have hl : eu.length = 256 := by rw [← kG]; exact mq _
 have ha : eu.all DV.one = true := by rw [← kG]; exact yw _
 have hfz : ∀ g, dr H.length eu g = some (eu, g) := fun g => z8 _ _ _ (fun x hx => by
  obtain ⟨c, _, rfl⟩ := List.mem_map.1 hx
  exact ⟨_, rfl⟩)
 have htk : eu.take 256 = eu := List.take_of_length_le (by omega)
 have fP : eu.drop 256 = [] := List.drop_of_length_le (by omega)
 rw [Zv (X := X) _ IQ _ rfl rfl]; unfold IQ
 generalize aM = L at *
 generalize eu = sc at *
 generalize qv 256 (.bool false) = zc at *
 refine rn (df @hl @ha @htk @fP) ?_
 refine Yy ?_
 rw [hc]
 refine rn (df @hl @ha @htk @fP) ?_
 exact re (eP @hl @ha @htk @fP @hfz)
theorem Kv (s s' : ByteArray) : (s == s') = true ↔ s = s' := by
 constructor
 ·intro h
  have h' : (s.data == s'.data) = true := h
  cases s; cases s'
  simp at h' ⊢
  exact h'
 ·rintro rfl; exact j7 s
theorem xj (s : ByteArray) : (s == (⟨#[]⟩ : ByteArray)) = decide (s.size = 0) := by
 by_cases h : s.size = 0
 ·have : s = ⟨#[]⟩ := ByteArray.size_eq_zero_iff.1 h
  rw [this]; rfl
 ·have h2 : ¬ (s == (⟨#[]⟩ : ByteArray)) = true := by
   rw [Kv]
   rintro rfl
   exact h rfl
  rw [Bool.eq_false_iff.2 h2]
  simp [h]
def jO (s : ByteArray) : Bool := s.data.toList.all fun b => kL b.toNat
theorem qP (s : ByteArray) : jO s = true ↔ ∀ j, j < s.size → gP s j = true := by
 have hl : s.data.toList.length = s.size := by show s.data.toList.length = s.data.size; exact Array.length_toList
 rw [jO, List.all_eq_true]
 constructor
 ·intro h j hj
  have hb : s.data.toList[j]? = some (s.data.toList[j]'(by omega)) := List.getElem?_eq_getElem _
  rw [nK hb]
  exact h _ (List.getElem_mem _)
 ·intro h b hb
  obtain ⟨j, hj, rfl⟩ := List.mem_iff_getElem.1 hb
  have := h j (by omega)
  rwa [nK (List.getElem?_eq_getElem hj)] at this
theorem MD {s : ByteArray} (h0 : s.size ≠ 0) (hb : s.size ≤ 1000000) (H : Zb) : ∃ r, E X 118 [.str s, .str aM] H = some (.str r, H) ∧ (r == (⟨#[]⟩ : ByteArray)) = jO s := by
 have hA : (H ++ [HO.box 160 eu])[H.length]? = some (.box 160 eu) := by simp
 obtain ⟨m, m1, m2, m3, Kl⟩ := Mq hA hb
 obtain ⟨t, ht⟩ : ∃ t, t = s.extract 0 m := ⟨_, rfl⟩
 have UR : t.size = m := by rw [ht, ByteArray.size_extract]; omega
 rw [← ht] at Kl
 obtain ⟨p, p1, p2, p3, VR⟩ := Mr (s := t) hA (by omega)
 have hts : ∀ q, q < m → gP t q = gP s q := by
  intro q hq
  rw [gP, gP, ht, ext_toList, List.drop_zero, List.getD_eq_getElem?_getD, List.getD_eq_getElem?_getD, List.getElem?_take, if_pos hq]
 refine ⟨t.extract p t.size, ?_, ?_⟩
 ·have VS := Ms
  have x0 : (s == (⟨#[]⟩ : ByteArray)) = false := by rw [xj]; simpa using h0
  have x1 : (aM == (⟨#[]⟩ : ByteArray)) = false := by rw [xj]; rfl
  have x2 : aM.size = 37 := rfl
  have hl : eu.length = 256 := by rw [← kG]; exact mq _
  have ha : eu.all DV.one = true := by rw [← kG]; exact yw _
  have hz : (qv 256 (DV.bool false)).length = 256 := by simp [qv]
  have fP : (qv 256 (DV.bool false)).drop 256 = [] := List.drop_of_length_le (by rw [hz]; omega)
  generalize t.extract p t.size = r at *
  rw [Zv (X := X) _ I5 _ rfl rfl]; unfold I5
  generalize aM = L at *
  generalize eu = sc at *
  generalize qv 256 (.bool false) = zc at *
  clear m2 m3 p2 p3 hts ht UR
  refine uk (gJ @x0 @x1 @x2 @VS @VR @Kl @hl @ha @fP) ?_
  exact re @x0
 ·rw [xj, ByteArray.size_extract, Nat.min_self]
  by_cases hm : m = 0
  ·have h1 : jO s = true := (qP s).2 fun j hj => m3 j (by omega) hj
   rw [h1]
   have : t.size - p = 0 := by omega
   simp [this]
  ·have h1 : gP s (m - 1) = false := by
    rcases m2 with h | h
    ·exact absurd h hm
    ·exact h
   have h2 : jO s = false := by
    rw [Bool.eq_false_iff]
    intro h
    rw [(qP s).1 h (m - 1) (by omega)] at h1
    cases h1
   rw [h2]
   have hp : p < m := by
    rcases Nat.lt_or_ge p m with h | h
    ·exact h
    ·have := p3 (m - 1) (by omega)
     rw [hts (m - 1) (by omega), h1] at this
     cases this
   have : ¬ t.size - p = 0 := by omega
   simp [this]
def jF (s : ByteArray) : Bool := decide (1 ≤ s.size) && (decide (s.size ≤ 16) && jO s)
theorem Qp (s : ByteArray) (h : Zb) : E X 79 [.str s] h = some (.bool (jF s), h) := by
 by_cases c1 : 1 ≤ s.size
 ·have d1 : (1 : Int) ≤ (s.size : Int) := by omega
  by_cases c2 : s.size ≤ 16
  ·have d2 : (s.size : Int) ≤ 16 := by omega
   obtain ⟨r, qm, hr⟩ := MD (s := s) (by omega) (by omega) h
   have hn : jF s = jO s := by simp [jF, c1, c2]
   rw [hn, ← hr]
   have qm : E X 118 [.str s, .str ⟨#[97, 98, 99, 100, 101, 102, 103, 104, 105, 106, 107, 108, 109, 110, 111, 112, 113, 114, 115, 116, 117, 118, 119, 120, 121, 122, 48, 49, 50, 51, 52, 53, 54, 55, 56, 57, 95]⟩] h = some (.str r, h) := qm
   clear hn hr
   rw [Zv (X := X) _ Az _ rfl rfl]; unfold Az; exact rg (eP @c1 @c2 @d1 @d2 @qm)
  ·have d2 : ¬ (s.size : Int) ≤ 16 := by omega
   have hn : jF s = false := by simp [jF, c2]
   rw [hn]
   rw [Zv (X := X) _ Az _ rfl rfl]; unfold Az; exact rg (df @c1 @c2 @d1 @d2)
 ·have d1 : ¬ (1 : Int) ≤ (s.size : Int) := by omega
  have hn : jF s = false := by simp [jF, c1]
  rw [hn]
  rw [Zv (X := X) _ Az _ rfl rfl]; unfold Az; exact rg (aD @c1 @d1)
structure Cl where
 nm : ByteArray
 kd : Int
 nl : Bool
abbrev Cl.d (c : Cl) : DV := .agg [.str c.nm, .int .i64 c.kd, .bool c.nl]
structure Sch where
 cols : List Cl
 key : Int
 cmp : Int
 del : Int
 sort : Int
abbrev Yi (C : DV) (s : Sch) : List DV := [C, .int .i64 s.key, .int .i64 s.cmp, .int .i64 s.del, .int .i64 s.sort]
abbrev Yl (C : DV) (s : Sch) : DV := .agg (Yi C s)
abbrev V3 (x : Int × Bool) : DV := .agg [.int .i64 x.1, .bool x.2]
abbrev intD (x : Int) : DV := .int .i64 x
def fidx {α : Type} (P : α → Bool) : List α → Nat → Int
 | [], _ => -1
 | x :: l, i => if P x then i else fidx P l (i + 1)
theorem Lm {h : Zb} {L : DV} {xs : List Cl} {f : Nat} {cap : List DV} {P : Cl → Bool} (hL : vw h 3 L = some (xs.map Cl.d)) (hF : ∀ x, x ∈ xs → E X f (Cl.d x :: cap) h = some (.bool (P x), h)) (hb : xs.length ≤ 1000000) :
 ∀ (k i : Nat), xs.length - i ≤ k → i ≤ xs.length → (∃ ex, C X (.loop jY) [(0, L), (1, .func f [] cap), (7, .int .i64 xs.length), (8, .int .i64 i)] h = some (.exit 0, (0, L) :: ex, h) ∧ fidx P (xs.drop i) i = -1) ∨ C X (.loop jY) [(0, L), (1, .func f [] cap), (7, .int .i64 xs.length), (8, .int .i64 i)] h = some (.ret, [(4, .int .i64 (fidx P (xs.drop i) i))], h) := by
 intro k
 induction k with
 | zero =>
  intro i hk hi
  obtain rfl : i = xs.length := by omega
  refine .inl ⟨[(1, .func f [] cap), (7, .int .i64 xs.length), (8, .int .i64 xs.length), (9, .bool false)], ?_, by simp [fidx]⟩
  rw [Zc]
  unfold jY
  refine rn @hL ?_
  rw [Zx]
  simp [Za, lk]
 | succ k ih =>
  intro i hk hi
  by_cases c : i < xs.length
  ·obtain ⟨I, hI⟩ : ∃ I, I = i + 1 := ⟨_, rfl⟩
   have z1 : IntKind.i64.wrap ((i : Int) + 1) = (I : Int) := wr
   obtain ⟨x, hx⟩ : ∃ x, x = xs[i] := ⟨_, rfl⟩
   have bN : xs[i]? = some x := by rw [hx]; exact List.getElem?_eq_getElem c
   have hx' := hx.symm
   have hd : xs.drop i = x :: xs.drop I := by rw [List.drop_eq_getElem_cons c, hx', hI]
   have e := hF x (by rw [hx]; exact List.getElem_mem c)
   have cK := ih I (by omega) (by omega)
   rw [hd, fidx]
   cases hp : P x
   ·rw [hp] at e
    have hs : C X jY [(0, L), (1, .func f [] cap), (7, .int .i64 xs.length), (8, .int .i64 i)] h = some (.norm, [(0, L), (1, .func f [] cap), (7, .int .i64 xs.length), (8, .int .i64 I)], h) := by
     clear ih cK hx hd hF hI
     obtain ⟨xn, xk, xl⟩ := x
     (try simp only [Cl.d] at *)
     unfold jY
     refine Yx (eO @c @z1 @hL @hx' @bN @e) ?_
     simp [Za, lk]
    rw [Zc, hs, ZB]
    simp only [Bool.false_eq_true, if_false]
    rw [← hI]
    exact cK
   ·rw [hp] at e
    right
    have hs : C X jY [(0, L), (1, .func f [] cap), (7, .int .i64 xs.length), (8, .int .i64 i)] h = some (.ret, [(4, .int .i64 i)], h) := by
     clear ih cK hx hd hF hI
     obtain ⟨xn, xk, xl⟩ := x
     (try simp only [Cl.d] at *)
     unfold jY
     refine Yx (eO @c @z1 @hL @hx' @bN @e) ?_
     simp [Za, lk]
    rw [Zc, hs, Yw]
    simp
  ·exact ih i (by omega) hi
theorem MC {h : Zb} {L : DV} {xs : List Cl} {f : Nat} {cap : List DV} {P : Cl → Bool} (hL : vw h 3 L = some (xs.map Cl.d)) (hF : ∀ x, x ∈ xs → E X f (Cl.d x :: cap) h = some (.bool (P x), h)) (hb : xs.length ≤ 1000000) :
 E X 119 [L, .func f [] cap] h = some (.int .i64 (fidx P xs 0), h) := by
 rcases Lm hL hF hb xs.length 0 (by omega) (by omega) with ⟨ex, hc, hf⟩ | hc
 ·rw [List.drop_zero] at hf
  rw [hf]
  rw [show ((0 : Nat) : Int) = 0 from rfl] at hc
  rw [Zv (X := X) _ AO _ rfl rfl]; unfold AO
  refine rn @hL ?_
  refine Yy ?_
  rw [hc]
  refine rn trivial ?_
  exact re trivial
 ·rw [List.drop_zero, show ((0 : Nat) : Int) = 0 from rfl] at hc
  rw [Zv (X := X) _ AO _ rfl rfl]; unfold AO
  generalize fidx P xs 0 = r at *
  refine rn @hL ?_
  refine Yy ?_
  rw [hc]
  refine rn trivial ?_
  exact re trivial
theorem MB {h : Zb} {b t : Nat} {nm : ByteArray} (hb : h[b]? = some (.box t [.str nm])) (c : Cl) : E X 120 [c.d, .ref b 0] h = some (.bool (c.nm == nm), h) := by
 have hlt := (List.getElem?_eq_some_iff.1 hb).1
 have bu : ∀ G, (h ++ G)[b]? = some (.box t [.str nm]) := fun G => by rw [List.getElem?_append_left hlt]; exact hb
 obtain ⟨xn, xk, xl⟩ := c
 simp only [Cl.d]
 rw [Zv (X := X) _ I4 _ rfl rfl]; unfold I4; exact d8 (aD @hb @bu)
theorem Qo {C : DV} {s : Sch} (hC : ∀ g, vw g 3 C = some (s.cols.map Cl.d)) (hb : s.cols.length ≤ 1000) (nm : ByteArray) (H : Zb) : E X 80 [Yl C s, .str nm] H = some (.int .i64 (fidx (fun c => c.nm == nm) s.cols 0), H) := by
 obtain ⟨h, hh⟩ : ∃ h, h = H ++ [HO.box 24 (Yi C s), .box 9 [.str nm]] := ⟨_, rfl⟩
 have hb' : h[H.length + 1]? = some (.box 9 [.str nm]) := by rw [hh]; simp [ae]
 have VU := MC (h := h) (f := 120) (cap := [.ref (H.length + 1) 0]) (P := fun c => c.nm == nm) (hC h) (fun c _ => MB hb' c) (by omega)
 subst hh
 obtain ⟨cols, k1, k2, k3, k4⟩ := s
 simp only [Yl, Yi] at *
 generalize fidx (fun c => c.nm == nm) cols 0 = r at *
 clear hb'
 rw [Zv (X := X) _ PL _ rfl rfl]; unfold PL; exact rg @VU
def pu {α : Type} (l : List α) (i : Int) : Option α := if 0 ≤ i then l[i.toNat]? else none
theorem o8 {α : Type} {l : List α} {i : Int} (h : ¬ (0 ≤ i ∧ i < l.length)) : pu l i = none := by
 unfold pu
 split
 ·exact List.getElem?_eq_none (by omega)
 ·rfl
def eW (s : Sch) (i kind : Int) : Bool := match pu s.cols i with
 | some c => !c.nl && (kind == 0 || c.kd == kind)
 | none => false
theorem zf {C : DV} {s : Sch} (hC : ∀ g, vw g 3 C = some (s.cols.map Cl.d)) (i kind : Int) (H : Zb) : E X 121 [Yl C s, .int .i64 i, .int .i64 kind] H = some (.bool (eW s i kind), H) := by
 by_cases c1 : 0 ≤ i
 ·obtain ⟨p, rfl⟩ : ∃ p : Nat, i = p := ⟨i.toNat, by omega⟩
  by_cases c2 : p < s.cols.length
  ·obtain ⟨c, hc⟩ : ∃ c, c = s.cols[p] := ⟨_, rfl⟩
   have hci : s.cols[p]? = some c := by rw [hc]; exact List.getElem?_eq_getElem c2
   have cH := hc.symm
   have hv : eW s p kind = (!c.nl && (kind == 0 || c.kd == kind)) := by
    unfold eW pu
    rw [if_pos c1, Int.toNat_natCast, hci]
   rw [hv]
   clear hv hc
   obtain ⟨cols, k1, k2, k3, k4⟩ := s
   obtain ⟨xn, xk, xl⟩ := c
   simp only [Yl, Yi] at *
   have c2 : p < cols.length := c2
   cases xl
   ·by_cases c3 : kind = 0
    ·subst c3
     rw [Zv (X := X) _ oM _ rfl rfl]; unfold oM; exact d8 (eP @hC @c1 @c2 @hci @cH)
    ·have d3 : (kind == 0) = false := by simpa using c3
     rw [Zv (X := X) _ oM _ rfl rfl]; unfold oM; exact d8 (fR @hC @c1 @c2 @hci @cH @c3 @d3)
   ·rw [Zv (X := X) _ oM _ rfl rfl]; unfold oM; exact d8 (eP @hC @c1 @c2 @hci @cH)
  ·have d2 : ¬ (p : Int) < (s.cols.length : Int) := by omega
   have hv : eW s p kind = false := by unfold eW; rw [o8 (by omega)]
   rw [hv]
   obtain ⟨cols, k1, k2, k3, k4⟩ := s
   simp only [Yl, Yi] at *
   rw [Zv (X := X) _ oM _ rfl rfl]; unfold oM; exact d8 (df @hC @c1 @c2 @d2)
 ·have hv : eW s i kind = false := by unfold eW; rw [o8 (by omega)]
  rw [hv]
  obtain ⟨cols, k1, k2, k3, k4⟩ := s
  simp only [Yl, Yi] at *
  rw [Zv (X := X) _ oM _ rfl rfl]; unfold oM; exact d8 (aD @hC @c1)
def og (s : Sch) : Bool := if s.key = -1 then s.cmp == -1 && s.del == -1 else eW s s.key 0 && (eW s s.cmp 1 && (s.del == -1 || eW s s.del 3))
theorem Qn {C : DV} {s : Sch} (hC : ∀ g, vw g 3 C = some (s.cols.map Cl.d)) (H : Zb) : E X 81 [Yl C s] H = some (.bool (og s), H) := by
 have e1 := fun g => zf hC s.key 0 g
 have e2 := fun g => zf hC s.cmp 1 g
 have e3 := fun g => zf hC s.del 3 g
 unfold og
 generalize eW s s.key 0 = v1 at *
 generalize eW s s.cmp 1 = v2 at *
 generalize eW s s.del 3 = v3 at *
 obtain ⟨cols, k1, k2, k3, k4⟩ := s
 simp only [Yl, Yi] at *
 by_cases c1 : k1 = -1
 ·subst c1
  by_cases c2 : k2 = -1
  ·subst c2
   rw [Zv (X := X) _ vV _ rfl rfl]; unfold vV; exact rg @e1
  ·have d2 : (k2 == -1) = false := by simpa using c2
   rw [Zv (X := X) _ vV _ rfl rfl]; unfold vV; exact rg (cg @e1 @c2 @d2)
 ·have d1 : (k1 == -1) = false := by simpa using c1
  by_cases c3 : k3 = -1
  ·subst c3
   cases v1 <;> cases v2
   all_goals
    rw [Zv (X := X) _ vV _ rfl rfl]; unfold vV; exact rg (eP @e1 @e2 @e3 @c1 @d1)
  ·have d3 : (k3 == -1) = false := by simpa using c3
   cases v1 <;> cases v2 <;> cases v3
   all_goals
    rw [Zv (X := X) _ vV _ rfl rfl]; unfold vV; exact rg (fR @e1 @e2 @e3 @c1 @d1 @c3 @d3)
def Ou (s : Sch) (i : Int) : Bool := decide (0 ≤ i) && decide (i < s.cols.length)
def bO (s : Sch) (i : Nat) (c : Cl) : Bool := jF c.nm && (decide (1 ≤ c.kd) && (decide (c.kd ≤ 3) && (fidx (fun x => x.nm == c.nm) s.cols 0 == (i : Int))))
def kF (s : Sch) : List Cl → Nat → Bool
 | [], _ => true
 | c :: l, i => bO s i c && kF s l (i + 1)
set_option maxHeartbeats 1000000 in
theorem Pv {h : Zb} {Cd : DV} {s : Sch} {b i I : Nat} {c : Cl} (hC : ∀ g, vw g 3 Cd = some (s.cols.map Cl.d)) (hb : h[b]? = some (.box 24 (Yi Cd s))) (hl : s.cols.length ≤ 1000) (hc : s.cols[i]? = some c) (z1 : IntKind.i64.wrap ((i : Int) + 1) = (I : Int)) :
 C X jg [(1, .ref b 0), (6, Cd), (7, .int .i64 s.cols.length), (8, .int .i64 i)] h = some (if bO s i c = true then (.norm, [(1, .ref b 0), (6, Cd), (7, .int .i64 s.cols.length), (8, .int .i64 I)], h ++ [.box 61 c.d.cells]) else (.ret, [(2, .bool false)], h ++ [.box 61 c.d.cells])) := by
 obtain ⟨ci, hc1⟩ := List.getElem?_eq_some_iff.1 hc
 have kC := fun g => Qp c.nm g
 have yt := fun g => Qo hC hl c.nm g
 have bu : ∀ G, (h ++ G)[b]? = some (.box 24 (Yi Cd s)) := fun G => by rw [List.getElem?_append_left (List.getElem?_eq_some_iff.1 hb).1]; exact hb
 cases h1 : jF c.nm
 ·have hv : bO s i c = false := by simp [bO, h1]
  rw [hv, if_neg (by simp)]
  rw [h1] at kC
  obtain ⟨cn, ck, cl⟩ := c
  obtain ⟨cols, k1, k2, k3, k4⟩ := s
  simp only [Yl, Yi, Cl.d] at *
  have ci : i < cols.length := ci
  clear hv h1 yt
  unfold jg
  refine Yx (ga @ci @z1 @hC @hc @hc1 @kC @hb @bu) ?_
  simp [Za, lk, DV.cells]
 rw [h1] at kC
 by_cases h2 : 1 ≤ c.kd
 ·have d2 : ¬ c.kd < 1 := by omega
  by_cases h3 : c.kd ≤ 3
  ·have d3 : ¬ 3 < c.kd := by omega
   obtain ⟨r, hr⟩ : ∃ r, r = fidx (fun x : Cl => x.nm == c.nm) s.cols 0 := ⟨_, rfl⟩
   rw [← hr] at yt
   by_cases h4 : r = (i : Int)
   ·have hv : bO s i c = true := by simp [bO, h1, h2, h3, ← hr, h4]
    rw [hv, if_pos rfl]
    subst h4
    obtain ⟨cn, ck, cl⟩ := c
    obtain ⟨cols, k1, k2, k3, k4⟩ := s
    simp only [Yl, Yi, Cl.d] at *
    have ci : i < cols.length := ci
    clear hv h1 hr
    unfold jg
    refine Yx (cP @ci @z1 @hC @hc @hc1 @kC @yt @d2 @d3 @hb @bu) ?_
    simp [Za, lk, DV.cells]
   ·have d4 : (r != (i : Int)) = true := by simpa using h4
    have hv : bO s i c = false := by simp [bO, h1, h2, h3, ← hr, h4]
    rw [hv, if_neg (by simp)]
    obtain ⟨cn, ck, cl⟩ := c
    obtain ⟨cols, k1, k2, k3, k4⟩ := s
    simp only [Yl, Yi, Cl.d] at *
    have ci : i < cols.length := ci
    clear hv h1 hr
    unfold jg
    refine Yx (ja @ci @z1 @hC @hc @hc1 @kC @yt @d2 @d3 @d4 @h4 @hb @bu) ?_
    simp [Za, lk, DV.cells]
  ·have d3 : 3 < c.kd := by omega
   have hv : bO s i c = false := by simp [bO, h3]
   rw [hv, if_neg (by simp)]
   obtain ⟨cn, ck, cl⟩ := c
   obtain ⟨cols, k1, k2, k3, k4⟩ := s
   simp only [Yl, Yi, Cl.d] at *
   have ci : i < cols.length := ci
   clear hv h1 yt
   unfold jg
   refine Yx (ei @ci @z1 @hC @hc @hc1 @kC @d2 @d3 @hb @bu) ?_
   simp [Za, lk, DV.cells]
 ·have d2 : c.kd < 1 := by omega
  have hv : bO s i c = false := by simp [bO, h2]
  rw [hv, if_neg (by simp)]
  obtain ⟨cn, ck, cl⟩ := c
  obtain ⟨cols, k1, k2, k3, k4⟩ := s
  simp only [Yl, Yi, Cl.d] at *
  have ci : i < cols.length := ci
  clear hv h1 yt
  unfold jg
  refine Yx (gJ @ci @z1 @hC @hc @hc1 @kC @d2 @hb @bu) ?_
  simp [Za, lk, DV.cells]
theorem Nc {Cd : DV} {s : Sch} {b : Nat} (hC : ∀ g, vw g 3 Cd = some (s.cols.map Cl.d)) (hl : s.cols.length ≤ 1000) :
 ∀ (k i : Nat) (h : Zb), s.cols.length - i ≤ k → i ≤ s.cols.length → h[b]? = some (.box 24 (Yi Cd s)) → (∃ ex G, C X (.loop jg) [(1, .ref b 0), (6, Cd), (7, .int .i64 s.cols.length), (8, .int .i64 i)] h = some (.exit 0, (1, .ref b 0) :: ex, h ++ G) ∧ kF s (s.cols.drop i) i = true) ∨ (∃ G, C X (.loop jg) [(1, .ref b 0), (6, Cd), (7, .int .i64 s.cols.length), (8, .int .i64 i)] h = some (.ret, [(2, .bool false)], h ++ G) ∧ kF s (s.cols.drop i) i = false) := by
 intro k
 induction k with
 | zero =>
  intro i h hk hi hb
  obtain rfl : i = s.cols.length := by omega
  refine .inl ⟨[(6, Cd), (7, .int .i64 s.cols.length), (8, .int .i64 s.cols.length), (9, .bool false)], [], ?_, by simp [kF]⟩
  rw [Zc]
  unfold jg
  refine rn trivial ?_
  rw [Zx]
  simp [Za, lk]
 | succ k ih =>
  intro i h hk hi hb
  by_cases c : i < s.cols.length
  ·obtain ⟨I, hI⟩ : ∃ I, I = i + 1 := ⟨_, rfl⟩
   have z1 : IntKind.i64.wrap ((i : Int) + 1) = (I : Int) := wr
   obtain ⟨x, hx⟩ : ∃ x, x = s.cols[i] := ⟨_, rfl⟩
   have bN : s.cols[i]? = some x := by rw [hx]; exact List.getElem?_eq_getElem c
   have hd : s.cols.drop i = x :: s.cols.drop I := by rw [List.drop_eq_getElem_cons c, ← hx, hI]
   have hbd := Pv hC hb hl bN z1
   rw [hd, kF, Zc, hbd]
   cases h0 : bO s i x
   ·right
    rw [if_neg (by simp), Yw]
    exact ⟨_, rfl, rfl⟩
   ·rw [if_pos rfl, ZB, ← hI, Bool.true_and]
    rcases ih I (h ++ [.box 61 x.d.cells]) (by omega) (by omega) (by rw [List.getElem?_append_left (List.getElem?_eq_some_iff.1 hb).1]; exact hb) with ⟨ex, G, h1, h2⟩ | ⟨G, h1, h2⟩
    ·exact .inl ⟨ex, _, by rw [h1, List.append_assoc], h2⟩
    ·exact .inr ⟨_, by rw [h1, List.append_assoc], h2⟩
  ·exact ih i h (by omega) hi hb
def cm (s : Sch) : Bool := kF s s.cols 0 && (decide (1 ≤ s.cols.length) && (decide (s.cols.length ≤ 8) && (og s && (decide (-1 ≤ s.sort) && decide (s.sort < s.cols.length)))))
set_option maxHeartbeats 1000000 in
theorem JB {Cd : DV} {s : Sch} (hC : ∀ g, vw g 3 Cd = some (s.cols.map Cl.d)) (hl : s.cols.length ≤ 1000) (H : Zb) : E X 53 [Yl Cd s] H = some (.bool (cm s), H) := by
 have FO := fun g => Qn hC g
 rcases Nc (b := H.length) hC hl s.cols.length 0 (H ++ [.box 24 (Yi Cd s)]) (by omega) (by omega) (by simp) with ⟨ex, G, hc, hf⟩ | ⟨G, hc, hf⟩
 ·rw [List.drop_zero] at hf
  rw [show ((0 : Nat) : Int) = 0 from rfl] at hc
  have bu : (H ++ [HO.box 24 (Yi Cd s)] ++ G)[H.length]? = some (.box 24 (Yi Cd s)) := by rw [List.append_assoc]; simp
  generalize xV : H ++ [HO.box 24 (Yi Cd s)] ++ G = h2 at hc bu
  have aA : ∀ bb : Bool, fin H h2 [.bool bb] = (.bool bb, H) := by
   intro bb
   have ht : h2.take H.length = H := by rw [← xV, List.append_assoc, List.take_append_of_le_length (Nat.le_refl _)]; exact List.take_length
   simp [fin, ht, aH, aJ]
  have key : ∀ bb, cm s = bb → (∀ (r : DV), True) → True := fun _ _ _ => trivial
  have hm : cm s = (decide (1 ≤ s.cols.length) && (decide (s.cols.length ≤ 8) && (og s && (decide (-1 ≤ s.sort) && decide (s.sort < s.cols.length))))) := by rw [cm, hf, Bool.true_and]
  rw [hm]
  clear hm hf xV key
  generalize og s = kv at *
  obtain ⟨cols, k1, k2, k3, k4⟩ := s
  simp only [Yl, Yi] at *
  rw [Zv (X := X) _ Gg _ rfl rfl]; unfold Gg
  refine rn @hC ?_
  refine Yy ?_
  rw [hc]
  by_cases c1 : 1 ≤ cols.length
  ·by_cases c2 : cols.length ≤ 8
   ·have d1 : (1 : Int) ≤ (cols.length : Int) := by omega
    have d2 : (cols.length : Int) ≤ 8 := by omega
    cases kv
    ·refine rn (fR @hC @bu @c1 @c2 @d1 @d2 @FO) ?_
     rw [Zh]
     simp [ZV, lk, Za, aA, c1, c2]
    ·by_cases c3 : -1 ≤ k4
     ·refine rn (ga @hC @bu @c1 @c2 @d1 @d2 @c3 @FO) ?_
      rw [Zh]
      simp [ZV, lk, Za, aA, c1, c2, c3]
     ·refine rn (ga @hC @bu @c1 @c2 @d1 @d2 @c3 @FO) ?_
      rw [Zh]
      simp [ZV, lk, Za, aA, c1, c2, c3]
   ·have d1 : (1 : Int) ≤ (cols.length : Int) := by omega
    have d2 : ¬ (cols.length : Int) ≤ 8 := by omega
    refine rn (eO @hC @bu @c1 @c2 @d1 @d2) ?_
    rw [Zh]
    simp [ZV, lk, Za, aA, c1, c2]
  ·have d1 : ¬ (1 : Int) ≤ (cols.length : Int) := by omega
   refine rn (df @hC @bu @c1 @d1) ?_
   rw [Zh]
   simp [ZV, lk, Za, aA, c1]
 ·rw [List.drop_zero] at hf
  rw [show ((0 : Nat) : Int) = 0 from rfl] at hc
  have hm : cm s = false := by rw [cm, hf, Bool.false_and]
  rw [hm]
  clear hm hf
  obtain ⟨cols, k1, k2, k3, k4⟩ := s
  simp only [Yl, Yi] at *
  rw [Zv (X := X) _ Gg _ rfl rfl]; unfold Gg
  refine rn @hC ?_
  refine Yy ?_
  rw [hc]
  refine rn trivial ?_
  exact re trivial
abbrev V6 (x : Int × Int) : DV := .agg [.int .i64 x.1, .int .i64 x.2]
structure Qry where
 filter : List N
 cols : List Int
 group : List Int
 aggs : List (Int × Int)
 sort : List (Int × Bool)
 Yz : Int
def sW (A : DV) (l : List Int) : Prop := (∃ c, A = .list 1 (l.map intD) c) ∨ (A = .nils ∧ l = [])
theorem sW.vw {A : DV} {l : List Int} (h : sW A l) (g : Zb) : vw g 1 A = some (l.map intD) := by
 rcases h with ⟨c, rfl⟩ | ⟨rfl, rfl⟩ <;> rfl
theorem sW.one {A : DV} {l : List Int} (h : sW A l) : A.one = true := by
 rcases h with ⟨c, rfl⟩ | ⟨rfl, rfl⟩ <;> rfl
theorem KU (l : List Int) : ∀ x ∈ l.map intD, Nr x := fun x hx => by
 obtain ⟨n, _, rfl⟩ := List.mem_map.1 hx
 exact .int _ _
theorem sW.nr {A : DV} {l : List Int} (h : sW A l) : Nr A := by
 rcases h with ⟨c, rfl⟩ | ⟨rfl, rfl⟩
 ·exact .list (KU l)
 ·exact .nils
theorem sW.elt {A B : DV} {l m : List Int} (h : sW A l) (h2 : sW B m) (g : Zb) : bw [A, B] g = some ([A, B], g) := by
 rcases h with ⟨c, rfl⟩ | ⟨rfl, rfl⟩ <;> rcases h2 with ⟨c2, rfl⟩ | ⟨rfl, rfl⟩ <;> rfl
structure QV (H : Zb) (F Cn Gr Ag So : DV) (q : Qry) : Prop where
 f : ∀ G, vw (H ++ G) 8 F = some (q.filter.map N.d)
 c : sW Cn q.cols
 g : sW Gr q.group
 a : ∀ h, vw h 2 Ag = some (q.aggs.map V6)
 s : ∀ h, vw h 2 So = some (q.sort.map V3)
 nf : q.filter.length ≤ 1000
 nc : q.cols.length ≤ 1000
 ng : q.group.length ≤ 1000
 na : q.aggs.length ≤ 1000
 ns : q.sort.length ≤ 1000
theorem QV.ext {H : Zb} {F Cn Gr Ag So : DV} {q : Qry} (h : QV H F Cn Gr Ag So q) (G : Zb) : QV (H ++ G) F Cn Gr Ag So q :=
 { h with f := fun G' => by rw [List.append_assoc]; exact h.f _ }
theorem HV {s : Sch} {i : Int} {c : Cl} (hg : pu s.cols i = some c) : Ou s i = true ∧ ∃ p : Nat, i = p ∧ s.cols[p]? = some c ∧ ∃ pl : p < s.cols.length, s.cols[p] = c := by
 unfold pu at hg
 split at hg
 case isFalse => cases hg
 rename_i p0
 obtain ⟨pl, he⟩ := List.getElem?_eq_some_iff.1 hg
 have : i < (s.cols.length : Int) := by omega
 exact ⟨by simp [Ou, p0, this], i.toNat, by omega, hg, pl, he⟩
theorem Ny {h : Zb} {Cd : DV} {s : Sch} {b : Nat} (hC : ∀ g, vw g 3 Cd = some (s.cols.map Cl.d)) (hb : h[b]? = some (.box 24 (Yi Cd s))) (hl : s.cols.length ≤ 1000) :
 ∀ (k i : Nat), s.cols.length - i ≤ k → i ≤ s.cols.length → (∃ ex, C X (.loop l5) [(1, .ref b 0), (3, .int .i64 i)] h = some (.exit 0, (1, .ref b 0) :: ex, h)) ∨ C X (.loop l5) [(1, .ref b 0), (3, .int .i64 i)] h = some (.ret, [(2, .bool false)], h) := by
 obtain ⟨cols, k1, k2, k3, k4⟩ := s
 simp only [Yi] at *
 intro k
 induction k with
 | zero =>
  intro i hk hi
  obtain rfl : i = cols.length := by omega
  refine .inl ⟨[(3, .int .i64 cols.length), (12, .bool false)], ?_⟩
  rw [Zc]
  unfold l5
  refine Yx (aD @hC @hb) ?_
  rw [Zx]
  simp [Za, lk]
 | succ k ih =>
  intro i hk hi
  by_cases c : i < cols.length
  ·obtain ⟨I, hI⟩ : ∃ I, I = i + 1 := ⟨_, rfl⟩
   have z1 : IntKind.i64.wrap ((i : Int) + 1) = (I : Int) := wr
   obtain ⟨x, hx⟩ : ∃ x, x = cols[i] := ⟨_, rfl⟩
   have bN : cols[i]? = some x := by rw [hx]; exact List.getElem?_eq_getElem c
   have hx' := hx.symm
   by_cases d : 100 < x.nm.size
   ·right
    have d' : (100 : Int) < (x.nm.size : Int) := by omega
    have hs : C X l5 [(1, .ref b 0), (3, .int .i64 i)] h = some (.ret, [(2, .bool false)], h) := by
     clear ih hx
     obtain ⟨cn, ck, cl⟩ := x
     simp only [Cl.d] at *
     unfold l5
     refine Yx (ga @c @z1 @hC @hb @hx' @bN @d @d') ?_
     simp [Za, lk]
    rw [Zc, hs, Yw]
   ·have d' : ¬ (100 : Int) < (x.nm.size : Int) := by omega
    have hs : C X l5 [(1, .ref b 0), (3, .int .i64 i)] h = some (.norm, [(1, .ref b 0), (3, .int .i64 I)], h) := by
     clear ih hx
     obtain ⟨cn, ck, cl⟩ := x
     simp only [Cl.d] at *
     unfold l5
     refine Yx (ga @c @z1 @hC @hb @hx' @bN @d @d') ?_
     simp [Za, lk]
    rw [Zc, hs, ZB]
    exact ih I (by omega) (by omega)
  ·exact ih i (by omega) hi
theorem QX {Cd : DV} {s : Sch} (hC : ∀ g, vw g 3 Cd = some (s.cols.map Cl.d)) (H : Zb) : ∃ bb, E X 10 [Yl Cd s] H = some (.bool bb, H) ∧ (bb = true → s.cols.length ≤ 12) := by
 by_cases c : 12 < s.cols.length
 ·refine ⟨false, ?_, fun h => by cases h⟩
  have d : (12 : Int) < (s.cols.length : Int) := by omega
  obtain ⟨cols, k1, k2, k3, k4⟩ := s
  simp only [Yl, Yi] at *
  rw [Zv (X := X) _ sU _ rfl rfl]; unfold sU; exact rg (cg @hC @c @d)
 ·have d : ¬ (12 : Int) < (s.cols.length : Int) := by omega
  rcases Ny (b := H.length) (h := H ++ [.box 24 (Yi Cd s)]) hC (by simp) (by omega) s.cols.length 0 (by omega) (by omega) with ⟨ex, hc⟩ | hc
  ·refine ⟨true, ?_, fun _ => by omega⟩
   rw [show ((0 : Nat) : Int) = 0 from rfl] at hc
   obtain ⟨cols, k1, k2, k3, k4⟩ := s
   simp only [Yl, Yi] at *
   rw [Zv (X := X) _ sU _ rfl rfl]; unfold sU
   refine rn (cg @hC @c @d) ?_
   refine Yy ?_
   rw [hc]
   refine rn trivial ?_
   exact re trivial
  ·refine ⟨false, ?_, fun h => by cases h⟩
   rw [show ((0 : Nat) : Int) = 0 from rfl] at hc
   obtain ⟨cols, k1, k2, k3, k4⟩ := s
   simp only [Yl, Yi] at *
   rw [Zv (X := X) _ sU _ rfl rfl]; unfold sU
   refine rn (cg @hC @c @d) ?_
   refine Yy ?_
   rw [hc]
   refine rn trivial ?_
   exact re trivial
end Go.Proofs.YtmbgfbomgbdjeaaGreatDoor
