/- Ideal runs: strings.Trim by a set of letters; may a column's name be? Ideal runs: a column's name, a schema. Ideal runs: what a node needs, what is wrong with a filter. Ideal runs: may a schema be; what Check calls. Ideal runs: what Check calls. Ideal runs: slices.Concat, query.Check. Ideal runs: query.Check. Ideal runs: query.Outs. Ideal runs: few, the chapter's example. -/
import Derived.Test.YtmbgfbomgbdjeaaGreatDoorStep
import Derived.Test.YtmbgfbomgbdjeaaGreatDoorPlainB
import Derived.Test.YtmbgfbomgbdjeaaGreatDoorNod
import Derived.Test.YtmbgfbomgbdjeaaGreatDoorColT
namespace Go.Proofs.YtmbgfbomgbdjeaaGreatDoor
attribute [local go_sem] ZL ZD ZC ZE Zs Zh Zq Zk Zm Zc Ze Zl Zt Zu ZF Zr Zi ZB Zx Zw ZV Zz Yn put lk Od.v Za Zg Zn rdc Yd Ye Yc unx eqk DV.isU DV.cells hget ZP Yb ZO Zp splice ZQ mat ZW eqs one_bool one_int one_str one_nilp one_ref one_elem one_nils one_list one_row one_nilm one_map one_nilf one_func one_nili one_ifc one_agg one_tup Yv Yw
attribute [local go_sem ↓] Zj
set_option linter.unusedVariables false
set_option linter.unusedSimpArgs false
set_option maxRecDepth 10000
def isL (b : Nat) : Bool := (decide (97 ≤ b) && decide (b ≤ 122)) || (decide (48 ≤ b) && decide (b ≤ 57)) || decide (b = 95)
def lettersB : ByteArray := ⟨#[97, 98, 99, 100, 101, 102, 103, 104, 105, 106, 107, 108, 109, 110, 111, 112, 113, 114, 115, 116, 117, 118, 119, 120, 121, 122, 48, 49, 50, 51, 52, 53, 54, 55, 56, 57, 95]⟩
def setC : List DV := (List.range 256).map fun c => .bool (isL c)
theorem set_at (c : Nat) (hc : c < 256) : setC[c]? = some (.bool (isL c)) := by simp [setC, hc]
theorem run153 {h : Zb} {a : Nat} (hA : h[a]? = some (.box 160 setC)) (c : Nat) (hc : c < 256) : E X 153 [.ref a 0, .int .u8 c] h = some (.bool (isL c), h) := by
  have hs := set_at c hc
  have h1 : (0 : Int) ≤ (c : Int) := by omega
  have h2 : (c : Int) < 256 := by omega
  rw [ZH (X := X) _ b153 _ rfl rfl]; unfold b153; exact rg0 (fA5 @hA @hs @hc @h1 @h2)
def isLb (s : ByteArray) (j : Nat) : Bool := isL (s.data.toList.getD j 0).toNat
theorem isLb_at {s : ByteArray} {j : Nat} {b : UInt8} (h : s.data.toList[j]? = some b) : isLb s j = isL b.toNat := by
  rw [isLb, List.getD_eq_getElem?_getD, h]; rfl
theorem ext_toList (s : ByteArray) (a b : Nat) : (s.extract a b).data.toList = (s.data.toList.take b).drop a := by
  rw [ByteArray.data_extract, Array.toList_extract, List.extract_eq_take_drop, List.drop_take]
theorem loop140 {h : Zb} {a : Nat} {s : ByteArray} (hA : h[a]? = some (.box 160 setC)) (hb : s.size ≤ 1000000) :
    ∀ k, k ≤ s.size → ∃ m ex, m ≤ k ∧ (m = 0 ∨ isLb s (m - 1) = false) ∧ (∀ j, m ≤ j → j < k → isLb s j = true) ∧ C X (.loop lp140_0) [(0, .str (s.extract 0 k)), (1, .ref a 0)] h = some (.exit 0, (0, .str (s.extract 0 m)) :: ex, h) := by
  intro k
  induction k with
  | zero =>
    intro _
    refine ⟨0, [(1, .ref a 0), (7, .bool false)], Nat.le_refl _, .inl rfl, fun j h1 h2 => by omega, ?_⟩
    obtain ⟨t, ht⟩ : ∃ t, t = s.extract 0 0 := ⟨_, rfl⟩
    have hz : t.size = 0 := by rw [ht, ByteArray.size_extract]; omega
    rw [← ht]
    clear ht
    rw [Zf]
    unfold lp140_0
    refine rn13 trivial ?_
    rw [ZA]
    simp [Za, lk]
  | succ k ih =>
    intro hk
    obtain ⟨m, ex, h1, h2, h3, h4⟩ := ih (by omega)
    obtain ⟨t, ht⟩ : ∃ t, t = s.extract 0 (k + 1) := ⟨_, rfl⟩
    obtain ⟨u, hu⟩ : ∃ u, u = s.extract 0 k := ⟨_, rfl⟩
    obtain ⟨K, hK⟩ : ∃ K, K = k + 1 := ⟨_, rfl⟩
    have hz : t.size = K := by rw [ht, ByteArray.size_extract]; omega
    have z1 : IntKind.i64.wrap ((K : Int) - 1) = (k : Int) := (by rw [wrap64 _ (by omega) (by omega)]; omega)
    have hsl : s.data.toList.length = s.size := by show s.data.toList.length = s.data.size; exact Array.length_toList
    obtain ⟨b, hbb⟩ : ∃ b, b = s.data.toList[k]'(by omega) := ⟨_, rfl⟩
    have hsb : s.data.toList[k]? = some b := by rw [hbb]; exact List.getElem?_eq_getElem _
    have hg : t.data.toList[k]? = some b := by rw [ht, ext_toList, List.drop_zero, List.getElem?_take, if_pos (by omega)]; exact hsb
    have hg' : t.data[k]? = some b := by rw [← Array.getElem?_toList]; exact hg
    have hx : t.extract 0 k = u := by
      rw [ht, hu, ByteArray.extract_extract]
      congr 1
      omega
    have hl := isLb_at hsb
    have e80 := run153 hA b.toNat b.toNat_lt
    have k0 : (0 : Int) < (K : Int) := by omega
    have k1 : 0 < K := by omega
    have k2 : k ≤ K := by omega
    rw [← hu] at h4
    rw [← ht]
    cases hq : isL b.toNat
    · rw [hq] at hl e80
      refine ⟨k + 1, [(1, .ref a 0), (15, .bool true)], Nat.le_refl _, .inr hl, fun j q1 q2 => by omega, ?_⟩
      rw [← ht]
      clear ht hu hbb h3 h4 ih hsb hK
      rw [Zf]
      unfold lp140_0
      refine rn13 (fA6 @z1 @hg @hg' @e80 @k0 @k1) ?_
      rw [ZA]
      simp [Za, lk]
    · rw [hq] at hl e80
      refine ⟨m, ex, by omega, h2, fun j q1 q2 => ?_, ?_⟩
      · by_cases c : j = k
        · rw [c]; exact hl
        · exact h3 j q1 (by omega)
      · have hs : C X lp140_0 [(0, .str t), (1, .ref a 0)] h = some (.norm, [(0, .str u), (1, .ref a 0)], h) := by
          clear ht hu hbb h3 h4 ih hsb hK
          unfold lp140_0
          refine rn14 (fA8 @z1 @hg @hg' @e80 @k0 @k1 @k2 @hx) ?_
          simp [Za, lk]
        rw [Zf, hs, ZJ]
        exact h4
theorem loop139 {h : Zb} {a : Nat} {s : ByteArray} (hA : h[a]? = some (.box 160 setC)) (hb : s.size ≤ 1000000) :
    ∀ k j, s.size - j ≤ k → j ≤ s.size → ∃ p ex, j ≤ p ∧ p ≤ s.size ∧ (p = s.size ∨ isLb s p = false) ∧ (∀ q, j ≤ q → q < p → isLb s q = true) ∧ C X (.loop lp139_0) [(0, .str (s.extract j s.size)), (1, .ref a 0)] h = some (.exit 0, (0, .str (s.extract p s.size)) :: ex, h) := by
  intro k
  induction k with
  | zero =>
    intro j h1 h2
    obtain rfl : j = s.size := by omega
    refine ⟨s.size, [(1, .ref a 0), (7, .bool false)], Nat.le_refl _, Nat.le_refl _, .inl rfl, fun j h1 h2 => by omega, ?_⟩
    obtain ⟨t, ht⟩ : ∃ t, t = s.extract s.size s.size := ⟨_, rfl⟩
    have hz : t.size = 0 := by rw [ht, ByteArray.size_extract]; omega
    rw [← ht]
    clear ht
    rw [Zf]
    unfold lp139_0
    refine rn13 trivial ?_
    rw [ZA]
    simp [Za, lk]
  | succ k ih =>
    intro j h1 h2
    by_cases c : j < s.size
    · obtain ⟨p, ex, i1, i2, i3, i4, i5⟩ := ih (j + 1) (by omega) (by omega)
      obtain ⟨t, ht⟩ : ∃ t, t = s.extract j s.size := ⟨_, rfl⟩
      obtain ⟨u, hu⟩ : ∃ u, u = s.extract (j + 1) s.size := ⟨_, rfl⟩
      obtain ⟨K, hK⟩ : ∃ K, K = s.size - j := ⟨_, rfl⟩
      have hz : t.size = K := by rw [ht, ByteArray.size_extract]; omega
      have hsl : s.data.toList.length = s.size := by show s.data.toList.length = s.data.size; exact Array.length_toList
      obtain ⟨b, hbb⟩ : ∃ b, b = s.data.toList[j]'(by omega) := ⟨_, rfl⟩
      have hsb : s.data.toList[j]? = some b := by rw [hbb]; exact List.getElem?_eq_getElem _
      have hg : t.data.toList[0]? = some b := by rw [ht, ext_toList, List.getElem?_drop, Nat.add_zero, List.getElem?_take, if_pos (by omega)]; exact hsb
      have hg' : t.data[0]? = some b := by rw [← Array.getElem?_toList]; exact hg
      have hg2 : ∀ hb : 0 < t.data.size, t.data[0]'hb = b := fun hb => by rw [Array.getElem?_eq_getElem hb] at hg'; injection hg'
      have hx : t.extract 1 K = u := by
        rw [ht, hu, ByteArray.extract_extract]
        congr 1
        omega
      have hl := isLb_at hsb
      have e80 := run153 hA b.toNat b.toNat_lt
      have k0 : (0 : Int) < (K : Int) := by omega
      have k1 : 0 < K := by omega
      have k2 : 1 ≤ K := by omega
      rw [← hu] at i5
      rw [← ht]
      cases hq : isL b.toNat
      · rw [hq] at hl e80
        refine ⟨j, [(1, .ref a 0), (12, .bool true)], Nat.le_refl _, h2, .inr hl, fun q q1 q2 => by omega, ?_⟩
        rw [← ht]
        clear ht hu hbb i4 i5 ih hsb hK
        rw [Zf]
        unfold lp139_0
        refine rn13 (fA6 @hg @hg' @hg2 @e80 @k0 @k1) ?_
        rw [ZA]
        simp [Za, lk]
      · rw [hq] at hl e80
        refine ⟨p, ex, by omega, i2, i3, fun q q1 q2 => ?_, ?_⟩
        · by_cases c : q = j
          · rw [c]; exact hl
          · exact i4 q (by omega) q2
        · have hs : C X lp139_0 [(0, .str t), (1, .ref a 0)] h = some (.norm, [(0, .str u), (1, .ref a 0)], h) := by
            clear ht hu hbb i4 i5 ih hsb hK
            unfold lp139_0
            refine rn14 (fA8 @hg @hg' @hg2 @e80 @k0 @k1 @k2 @hx) ?_
            simp [Za, lk]
          rw [Zf, hs, ZJ]
          exact i5
    · exact ih j (by omega) h2
theorem run140 {h : Zb} {a : Nat} {s : ByteArray} (hA : h[a]? = some (.box 160 setC)) (hb : s.size ≤ 1000000) : ∃ m, m ≤ s.size ∧ (m = 0 ∨ isLb s (m - 1) = false) ∧ (∀ j, m ≤ j → j < s.size → isLb s j = true) ∧ E X 140 [.str s, .ref a 0] h = some (.str (s.extract 0 m), h) := by
  obtain ⟨m, ex, h1, h2, h3, h4⟩ := loop140 hA hb s.size (Nat.le_refl _)
  rw [ByteArray.extract_zero_size] at h4
  refine ⟨m, h1, h2, h3, ?_⟩
  generalize s.extract 0 m = t at *
  rw [ZH (X := X) _ b140 _ rfl rfl]; unfold b140
  refine rn trivial ?_
  refine keG ?_
  rw [h4]
  refine rn trivial ?_
  exact re trivial
theorem run139 {h : Zb} {a : Nat} {s : ByteArray} (hA : h[a]? = some (.box 160 setC)) (hb : s.size ≤ 1000000) : ∃ p, p ≤ s.size ∧ (p = s.size ∨ isLb s p = false) ∧ (∀ q, q < p → isLb s q = true) ∧ E X 139 [.str s, .ref a 0] h = some (.str (s.extract p s.size), h) := by
  obtain ⟨p, ex, _, h1, h2, h3, h4⟩ := loop139 hA hb s.size 0 (by omega) (by omega)
  rw [ByteArray.extract_zero_size] at h4
  refine ⟨p, h1, h2, fun q hq => h3 q (by omega) hq, ?_⟩
  generalize s.extract p s.size = t at *
  rw [ZH (X := X) _ b139 _ rfl rfl]; unfold b139
  refine rn trivial ?_
  refine keG ?_
  rw [h4]
  refine rn trivial ?_
  exact re trivial
/-- The set, when so many letters are in it. -/
def cellsAt (i : Nat) : List DV := (List.range 256).map fun c => .bool ((lettersB.data.toList.take i).any fun x => x.toNat == c)
theorem cells_len (i : Nat) : (cellsAt i).length = 256 := by simp [cellsAt]
theorem cells_all (i : Nat) : (cellsAt i).all DV.one = true := by simp [cellsAt, DV.one]
theorem cells_zero : cellsAt 0 = zrep 256 (.bool false) := by
  unfold cellsAt zrep
  apply List.ext_getElem?
  intro i
  rw [List.getElem?_replicate, List.getElem?_map]
  by_cases c : i < 256
  · rw [List.getElem?_range c, if_pos c]; rfl
  · rw [List.getElem?_eq_none (by simpa using c), if_neg c]; rfl
theorem cells_last : cellsAt 37 = setC := by
  unfold cellsAt setC
  apply List.map_congr_left
  intro c hc
  rw [List.mem_range] at hc
  have h : ∀ c : Fin 256, ((lettersB.data.toList.take 37).any fun x => x.toNat == c.val) = isL c.val := by decide +kernel
  rw [h ⟨c, hc⟩]
theorem cells_step {i : Nat} {b : UInt8} (h : lettersB.data.toList[i]? = some b) : splice (cellsAt i) b.toNat [.bool true] = cellsAt (i + 1) := by
  have hb := b.toNat_lt
  obtain ⟨hi, hbi⟩ := List.getElem?_eq_some_iff.1 h
  have ht : lettersB.data.toList.take (i + 1) = lettersB.data.toList.take i ++ [b] := by rw [List.take_add_one, h]; rfl
  apply List.ext_getElem?
  intro j
  have h1 : splice (cellsAt i) b.toNat [.bool true] = (cellsAt i).set b.toNat (.bool true) := by
    rw [List.set_eq_take_append_cons_drop, if_pos (by rw [cells_len]; exact hb)]
    simp [splice]
  rw [h1, List.getElem?_set]
  by_cases c1 : b.toNat = j
  · subst c1
    rw [if_pos rfl, if_pos (by rw [cells_len]; exact hb)]
    unfold cellsAt
    rw [List.getElem?_map, List.getElem?_range hb, ht]
    simp
  · rw [if_neg c1]
    unfold cellsAt
    rw [List.getElem?_map, List.getElem?_map, ht]
    by_cases c2 : j < 256
    · rw [List.getElem?_range c2]
      have : (b.toNat == j) = false := by simpa using c1
      simp [this]
    · rw [List.getElem?_eq_none (by simpa using c2)]
      rfl
theorem letters_small : ∀ i : Fin 37, ∃ b, lettersB.data.toList[i.val]? = some b ∧ b.toNat < 128 := by
  intro i
  have h : ∀ i : Fin 37, (lettersB.data.toList[i.val]?.map fun b => decide (b.toNat < 128)) = some true := by decide +kernel
  have h1 := h i
  cases hb : lettersB.data.toList[i.val]? with
  | none => rw [hb] at h1; cases h1
  | some b =>
    rw [hb] at h1
    refine ⟨b, rfl, ?_⟩
    simpa using h1
theorem loop138 (H : Zb) : ∀ (k i : Nat), 37 - i ≤ k → i ≤ 37 → ∃ ex, C X (.loop lp138_0) [(0, .str lettersB), (2, .ref H.length 0), (4, .int .i64 i)] (H ++ [.box 160 (cellsAt i)]) = some (.exit 0, (0, .str lettersB) :: (2, .ref H.length 0) :: ex, H ++ [.box 160 setC]) := by
  have hz : lettersB.size = 37 := rfl
  intro k
  induction k with
  | zero =>
    intro i hk hi
    obtain rfl : i = 37 := by omega
    refine ⟨[(4, .int .i64 37), (9, .bool false)], ?_⟩
    rw [cells_last]
    rw [Zf]
    unfold lp138_0
    generalize lettersB = L at *
    generalize setC = sc at *
    refine rn13 trivial ?_
    rw [ZA]
    simp [Za, lk]
  | succ k ih =>
    intro i hk hi
    by_cases c : i < 37
    · obtain ⟨I, hI⟩ : ∃ I, I = i + 1 := ⟨_, rfl⟩
      have z1 : IntKind.i64.wrap ((i : Int) + 1) = (I : Int) := (by rw [wrap64 _ (by omega) (by omega)]; omega)
      obtain ⟨b, hg, hb⟩ := letters_small ⟨i, c⟩
      simp only at hg
      have hst := cells_step hg
      rw [← hI] at hst
      obtain ⟨ex, hc⟩ := ih I (by omega) (by omega)
      refine ⟨ex, ?_⟩
      have hg' : lettersB.data[i]? = some b := by rw [← Array.getElem?_toList]; exact hg
      have hg2 : ∀ hb : i < lettersB.data.size, lettersB.data[i]'hb = b := fun hb => by rw [Array.getElem?_eq_getElem hb] at hg'; injection hg'
      have c1 : (i : Int) < 37 := by omega
      have d1 : ¬ (128 : Int) ≤ (b.toNat : Int) := by omega
      have d2 : ¬ 128 ≤ b.toNat := by omega
      have d3 : (0 : Int) ≤ (b.toNat : Int) := by omega
      have d4 : (b.toNat : Int) < 256 := by omega
      have d5 : b.toNat < 256 := by omega
      have d6 : b.toNat + 1 ≤ 256 := by omega
      have hl := cells_len i
      have hs : C X lp138_0 [(0, .str lettersB), (2, .ref H.length 0), (4, .int .i64 i)] (H ++ [.box 160 (cellsAt i)]) = some (.norm, [(0, .str lettersB), (2, .ref H.length 0), (4, .int .i64 I)], H ++ [.box 160 (cellsAt I)]) := by
        clear ih hc hI
        rw [← hst]
        clear hst
        unfold lp138_0
        generalize lettersB = L at *
        generalize cellsAt i = cs at *
        refine rn13 (fA13 @z1 @hg @hg' @hg2 @c @c1 @d1 @d2 @d3 @d4 @d5 @d6 @hl) ?_
        simp [Za, lk, splice]
      rw [Zf, hs, ZJ]
      exact hc
    · exact ih i (by omega) hi
theorem fzL_bool (n : Nat) : ∀ (cs : List DV) (h : Zb), (∀ x ∈ cs, ∃ b, x = .bool b) → fzL n cs h = some (cs, h)
  | [], _, _ => rfl
  | c :: cs, h, hn => by
    obtain ⟨b, rfl⟩ := hn c List.mem_cons_self
    have := fzL_bool n cs h fun x hx => hn x (List.mem_cons_of_mem _ hx)
    simp [fzL, fz0, this]
theorem run138 (H : Zb) : E X 138 [.str lettersB] H = some (.tup [.agg setC, .bool true], H) := by
  obtain ⟨ex, hc⟩ := loop138 H 37 0 (by omega) (by omega)
  rw [cells_zero, show ((0 : Nat) : Int) = 0 from rfl] at hc
  have hl : setC.length = 256 := by rw [← cells_last]; exact cells_len _
  have ha : setC.all DV.one = true := by rw [← cells_last]; exact cells_all _
  have hfz : ∀ g, fzL H.length setC g = some (setC, g) := fun g => fzL_bool _ _ _ (fun x hx => by
    obtain ⟨c, _, rfl⟩ := List.mem_map.1 hx
    exact ⟨_, rfl⟩)
  have htk : setC.take 256 = setC := List.take_of_length_le (by omega)
  have hdr : setC.drop 256 = [] := List.drop_of_length_le (by omega)
  rw [ZH (X := X) _ b138 _ rfl rfl]; unfold b138
  generalize lettersB = L at *
  generalize setC = sc at *
  generalize zrep 256 (.bool false) = zc at *
  refine rn (fA4 @hl @ha @htk @hdr) ?_
  refine keG ?_
  rw [hc]
  refine rn (fA4 @hl @ha @htk @hdr) ?_
  exact re (fA5 @hl @ha @htk @hdr @hfz)
theorem beq_b (s s' : ByteArray) : (s == s') = true ↔ s = s' := by
  constructor
  · intro h
    have h' : (s.data == s'.data) = true := h
    cases s; cases s'
    simp at h' ⊢
    exact h'
  · rintro rfl; exact beq_bytes s
theorem beq_emp (s : ByteArray) : (s == (⟨#[]⟩ : ByteArray)) = decide (s.size = 0) := by
  by_cases h : s.size = 0
  · have : s = ⟨#[]⟩ := ByteArray.size_eq_zero_iff.1 h
    rw [this]; rfl
  · have h2 : ¬ (s == (⟨#[]⟩ : ByteArray)) = true := by
      rw [beq_b]
      rintro rfl
      exact h rfl
    rw [Bool.eq_false_iff.2 h2]
    simp [h]
def allL (s : ByteArray) : Bool := s.data.toList.all fun b => isL b.toNat
theorem allL_iff (s : ByteArray) : allL s = true ↔ ∀ j, j < s.size → isLb s j = true := by
  have hl : s.data.toList.length = s.size := by show s.data.toList.length = s.data.size; exact Array.length_toList
  rw [allL, List.all_eq_true]
  constructor
  · intro h j hj
    have hb : s.data.toList[j]? = some (s.data.toList[j]'(by omega)) := List.getElem?_eq_getElem _
    rw [isLb_at hb]
    exact h _ (List.getElem_mem _)
  · intro h b hb
    obtain ⟨j, hj, rfl⟩ := List.mem_iff_getElem.1 hb
    have := h j (by omega)
    rwa [isLb_at (List.getElem?_eq_getElem hj)] at this
theorem run118 {s : ByteArray} (h0 : s.size ≠ 0) (hb : s.size ≤ 1000000) (H : Zb) : ∃ r, E X 118 [.str s, .str lettersB] H = some (.str r, H) ∧ (r == (⟨#[]⟩ : ByteArray)) = allL s := by
  have hA : (H ++ [HO.box 160 setC])[H.length]? = some (.box 160 setC) := by simp
  obtain ⟨m, m1, m2, m3, e71⟩ := run140 hA hb
  obtain ⟨t, ht⟩ : ∃ t, t = s.extract 0 m := ⟨_, rfl⟩
  have htz : t.size = m := by rw [ht, ByteArray.size_extract]; omega
  rw [← ht] at e71
  obtain ⟨p, p1, p2, p3, e70⟩ := run139 (s := t) hA (by omega)
  have hts : ∀ q, q < m → isLb t q = isLb s q := by
    intro q hq
    rw [isLb, isLb, ht, ext_toList, List.drop_zero, List.getD_eq_getElem?_getD, List.getD_eq_getElem?_getD, List.getElem?_take, if_pos hq]
  refine ⟨t.extract p t.size, ?_, ?_⟩
  · have e69 := run138
    have x0 : (s == (⟨#[]⟩ : ByteArray)) = false := by rw [beq_emp]; simpa using h0
    have x1 : (lettersB == (⟨#[]⟩ : ByteArray)) = false := by rw [beq_emp]; rfl
    have x2 : lettersB.size = 37 := rfl
    have hl : setC.length = 256 := by rw [← cells_last]; exact cells_len _
    have ha : setC.all DV.one = true := by rw [← cells_last]; exact cells_all _
    have hz : (zrep 256 (DV.bool false)).length = 256 := by simp [zrep]
    have hdr : (zrep 256 (DV.bool false)).drop 256 = [] := List.drop_of_length_le (by rw [hz]; omega)
    generalize t.extract p t.size = r at *
    rw [ZH (X := X) _ b118 _ rfl rfl]; unfold b118
    generalize lettersB = L at *
    generalize setC = sc at *
    generalize zrep 256 (.bool false) = zc at *
    clear m2 m3 p2 p3 hts ht htz
    refine rn13 (fA9 @x0 @x1 @x2 @e69 @e70 @e71 @hl @ha @hdr) ?_
    exact re @x0
  · rw [beq_emp, ByteArray.size_extract, Nat.min_self]
    by_cases hm : m = 0
    · have h1 : allL s = true := (allL_iff s).2 fun j hj => m3 j (by omega) hj
      rw [h1]
      have : t.size - p = 0 := by omega
      simp [this]
    · have h1 : isLb s (m - 1) = false := by
        rcases m2 with h | h
        · exact absurd h hm
        · exact h
      have h2 : allL s = false := by
        rw [Bool.eq_false_iff]
        intro h
        rw [(allL_iff s).1 h (m - 1) (by omega)] at h1
        cases h1
      rw [h2]
      have hp : p < m := by
        rcases Nat.lt_or_ge p m with h | h
        · exact h
        · have := p3 (m - 1) (by omega)
          rw [hts (m - 1) (by omega), h1] at this
          cases this
      have : ¬ t.size - p = 0 := by omega
      simp [this]
def nameV (s : ByteArray) : Bool := decide (1 ≤ s.size) && (decide (s.size ≤ 16) && allL s)
theorem run79 (s : ByteArray) (h : Zb) : E X 79 [.str s] h = some (.bool (nameV s), h) := by
  by_cases c1 : 1 ≤ s.size
  · have d1 : (1 : Int) ≤ (s.size : Int) := by omega
    by_cases c2 : s.size ≤ 16
    · have d2 : (s.size : Int) ≤ 16 := by omega
      obtain ⟨r, e52, hr⟩ := run118 (s := s) (by omega) (by omega) h
      have hn : nameV s = allL s := by simp [nameV, c1, c2]
      rw [hn, ← hr]
      have e52 : E X 118 [.str s, .str ⟨#[97, 98, 99, 100, 101, 102, 103, 104, 105, 106, 107, 108, 109, 110, 111, 112, 113, 114, 115, 116, 117, 118, 119, 120, 121, 122, 48, 49, 50, 51, 52, 53, 54, 55, 56, 57, 95]⟩] h = some (.str r, h) := e52
      clear hn hr
      rw [ZH (X := X) _ b79 _ rfl rfl]; unfold b79; exact rg (fA5 @c1 @c2 @d1 @d2 @e52)
    · have d2 : ¬ (s.size : Int) ≤ 16 := by omega
      have hn : nameV s = false := by simp [nameV, c2]
      rw [hn]
      rw [ZH (X := X) _ b79 _ rfl rfl]; unfold b79; exact rg (fA4 @c1 @c2 @d1 @d2)
  · have d1 : ¬ (1 : Int) ≤ (s.size : Int) := by omega
    have hn : nameV s = false := by simp [nameV, c1]
    rw [hn]
    rw [ZH (X := X) _ b79 _ rfl rfl]; unfold b79; exact rg (fA2 @c1 @d1)
structure Cl where
  nm : ByteArray
  kd : Int
  nl : Bool
abbrev Cl.d (c : Cl) : DV := .agg [.str c.nm, .int .i64 c.kd, .bool c.nl]
structure Sch where
  cols : List Cl
  key : Int
  cmp : Int
  del : Int
  sort : Int
abbrev schC (C : DV) (s : Sch) : List DV := [C, .int .i64 s.key, .int .i64 s.cmp, .int .i64 s.del, .int .i64 s.sort]
abbrev schD (C : DV) (s : Sch) : DV := .agg (schC C s)
abbrev byD (x : Int × Bool) : DV := .agg [.int .i64 x.1, .bool x.2]
abbrev intD (x : Int) : DV := .int .i64 x
/-- The first place at which something holds; -1: none. -/
def fidx {α : Type} (P : α → Bool) : List α → Nat → Int
  | [], _ => -1
  | x :: l, i => if P x then i else fidx P l (i + 1)
theorem loop119 {h : Zb} {L : DV} {xs : List Cl} {f : Nat} {cap : List DV} {P : Cl → Bool} (hL : vw h 3 L = some (xs.map Cl.d)) (hF : ∀ x, x ∈ xs → E X f (Cl.d x :: cap) h = some (.bool (P x), h)) (hb : xs.length ≤ 1000000) :
    ∀ (k i : Nat), xs.length - i ≤ k → i ≤ xs.length → (∃ ex, C X (.loop lp119_0) [(0, L), (1, .func f [] cap), (7, .int .i64 xs.length), (8, .int .i64 i)] h = some (.exit 0, (0, L) :: ex, h) ∧ fidx P (xs.drop i) i = -1) ∨ C X (.loop lp119_0) [(0, L), (1, .func f [] cap), (7, .int .i64 xs.length), (8, .int .i64 i)] h = some (.ret, [(4, .int .i64 (fidx P (xs.drop i) i))], h) := by
  intro k
  induction k with
  | zero =>
    intro i hk hi
    obtain rfl : i = xs.length := by omega
    refine .inl ⟨[(1, .func f [] cap), (7, .int .i64 xs.length), (8, .int .i64 xs.length), (9, .bool false)], ?_, by simp [fidx]⟩
    rw [Zf]
    unfold lp119_0
    refine rn @hL ?_
    rw [ZA]
    simp [Za, lk]
  | succ k ih =>
    intro i hk hi
    by_cases c : i < xs.length
    · obtain ⟨I, hI⟩ : ∃ I, I = i + 1 := ⟨_, rfl⟩
      have z1 : IntKind.i64.wrap ((i : Int) + 1) = (I : Int) := (by rw [wrap64 _ (by omega) (by omega)]; omega)
      obtain ⟨x, hx⟩ : ∃ x, x = xs[i] := ⟨_, rfl⟩
      have hxi : xs[i]? = some x := by rw [hx]; exact List.getElem?_eq_getElem c
      have hx' := hx.symm
      have hd : xs.drop i = x :: xs.drop I := by rw [List.drop_eq_getElem_cons c, hx', hI]
      have e := hF x (by rw [hx]; exact List.getElem_mem c)
      have hIH := ih I (by omega) (by omega)
      rw [hd, fidx]
      cases hp : P x
      · rw [hp] at e
        have hs : C X lp119_0 [(0, L), (1, .func f [] cap), (7, .int .i64 xs.length), (8, .int .i64 i)] h = some (.norm, [(0, L), (1, .func f [] cap), (7, .int .i64 xs.length), (8, .int .i64 I)], h) := by
          clear ih hIH hx hd hF hI
          obtain ⟨xn, xk, xl⟩ := x
          (try simp only [Cl.d] at *)
          unfold lp119_0
          refine rn0 (fA6 @c @z1 @hL @hx' @hxi @e) ?_
          simp [Za, lk]
        rw [Zf, hs, ZJ]
        simp only [Bool.false_eq_true, if_false]
        rw [← hI]
        exact hIH
      · rw [hp] at e
        right
        have hs : C X lp119_0 [(0, L), (1, .func f [] cap), (7, .int .i64 xs.length), (8, .int .i64 i)] h = some (.ret, [(4, .int .i64 i)], h) := by
          clear ih hIH hx hd hF hI
          obtain ⟨xn, xk, xl⟩ := x
          (try simp only [Cl.d] at *)
          unfold lp119_0
          refine rn0 (fA6 @c @z1 @hL @hx' @hxi @e) ?_
          simp [Za, lk]
        rw [Zf, hs, lp_ret]
        simp
    · exact ih i (by omega) hi
theorem run119 {h : Zb} {L : DV} {xs : List Cl} {f : Nat} {cap : List DV} {P : Cl → Bool} (hL : vw h 3 L = some (xs.map Cl.d)) (hF : ∀ x, x ∈ xs → E X f (Cl.d x :: cap) h = some (.bool (P x), h)) (hb : xs.length ≤ 1000000) :
    E X 119 [L, .func f [] cap] h = some (.int .i64 (fidx P xs 0), h) := by
  rcases loop119 hL hF hb xs.length 0 (by omega) (by omega) with ⟨ex, hc, hf⟩ | hc
  · rw [List.drop_zero] at hf
    rw [hf]
    rw [show ((0 : Nat) : Int) = 0 from rfl] at hc
    rw [ZH (X := X) _ b119 _ rfl rfl]; unfold b119
    refine rn @hL ?_
    refine keG ?_
    rw [hc]
    refine rn trivial ?_
    exact re trivial
  · rw [List.drop_zero, show ((0 : Nat) : Int) = 0 from rfl] at hc
    rw [ZH (X := X) _ b119 _ rfl rfl]; unfold b119
    generalize fidx P xs 0 = r at *
    refine rn @hL ?_
    refine keG ?_
    rw [hc]
    refine rn trivial ?_
    exact re trivial
theorem run120 {h : Zb} {b t : Nat} {nm : ByteArray} (hb : h[b]? = some (.box t [.str nm])) (c : Cl) : E X 120 [c.d, .ref b 0] h = some (.bool (c.nm == nm), h) := by
  have hlt := (List.getElem?_eq_some_iff.1 hb).1
  have hb2 : ∀ G, (h ++ G)[b]? = some (.box t [.str nm]) := fun G => by rw [List.getElem?_append_left hlt]; exact hb
  obtain ⟨xn, xk, xl⟩ := c
  simp only [Cl.d]
  rw [ZH (X := X) _ b120 _ rfl rfl]; unfold b120; exact rg0 (fA2 @hb @hb2)
theorem run80 {C : DV} {s : Sch} (hC : ∀ g, vw g 3 C = some (s.cols.map Cl.d)) (hb : s.cols.length ≤ 1000) (nm : ByteArray) (H : Zb) : E X 80 [schD C s, .str nm] H = some (.int .i64 (fidx (fun c => c.nm == nm) s.cols 0), H) := by
  obtain ⟨h, hh⟩ : ∃ h, h = H ++ [HO.box 24 (schC C s), .box 9 [.str nm]] := ⟨_, rfl⟩
  have hb' : h[H.length + 1]? = some (.box 9 [.str nm]) := by rw [hh]; simp [hget]
  have e53 := run119 (h := h) (f := 120) (cap := [.ref (H.length + 1) 0]) (P := fun c => c.nm == nm) (hC h) (fun c _ => run120 hb' c) (by omega)
  subst hh
  obtain ⟨cols, k1, k2, k3, k4⟩ := s
  simp only [schD, schC] at *
  generalize fidx (fun c => c.nm == nm) cols 0 = r at *
  clear hb'
  rw [ZH (X := X) _ b80 _ rfl rfl]; unfold b80; exact rg @e53
def getI {α : Type} (l : List α) (i : Int) : Option α := if 0 ≤ i then l[i.toNat]? else none
theorem getI_none {α : Type} {l : List α} {i : Int} (h : ¬ (0 ≤ i ∧ i < l.length)) : getI l i = none := by
  unfold getI
  split
  · exact List.getElem?_eq_none (by omega)
  · rfl
def ofV (s : Sch) (i kind : Int) : Bool := match getI s.cols i with
  | some c => !c.nl && (kind == 0 || c.kd == kind)
  | none => false
theorem run121 {C : DV} {s : Sch} (hC : ∀ g, vw g 3 C = some (s.cols.map Cl.d)) (i kind : Int) (H : Zb) : E X 121 [schD C s, .int .i64 i, .int .i64 kind] H = some (.bool (ofV s i kind), H) := by
  by_cases c1 : 0 ≤ i
  · obtain ⟨p, rfl⟩ : ∃ p : Nat, i = p := ⟨i.toNat, by omega⟩
    by_cases c2 : p < s.cols.length
    · obtain ⟨c, hc⟩ : ∃ c, c = s.cols[p] := ⟨_, rfl⟩
      have hci : s.cols[p]? = some c := by rw [hc]; exact List.getElem?_eq_getElem c2
      have hc' := hc.symm
      have hv : ofV s p kind = (!c.nl && (kind == 0 || c.kd == kind)) := by
        unfold ofV getI
        rw [if_pos c1, Int.toNat_natCast, hci]
      rw [hv]
      clear hv hc
      obtain ⟨cols, k1, k2, k3, k4⟩ := s
      obtain ⟨xn, xk, xl⟩ := c
      simp only [schD, schC] at *
      have c2 : p < cols.length := c2
      cases xl
      · by_cases c3 : kind = 0
        · subst c3
          rw [ZH (X := X) _ b121 _ rfl rfl]; unfold b121; exact rg0 (fA5 @hC @c1 @c2 @hci @hc')
        · have d3 : (kind == 0) = false := by simpa using c3
          rw [ZH (X := X) _ b121 _ rfl rfl]; unfold b121; exact rg0 (fA7 @hC @c1 @c2 @hci @hc' @c3 @d3)
      · rw [ZH (X := X) _ b121 _ rfl rfl]; unfold b121; exact rg0 (fA5 @hC @c1 @c2 @hci @hc')
    · have d2 : ¬ (p : Int) < (s.cols.length : Int) := by omega
      have hv : ofV s p kind = false := by unfold ofV; rw [getI_none (by omega)]
      rw [hv]
      obtain ⟨cols, k1, k2, k3, k4⟩ := s
      simp only [schD, schC] at *
      rw [ZH (X := X) _ b121 _ rfl rfl]; unfold b121; exact rg0 (fA4 @hC @c1 @c2 @d2)
  · have hv : ofV s i kind = false := by unfold ofV; rw [getI_none (by omega)]
    rw [hv]
    obtain ⟨cols, k1, k2, k3, k4⟩ := s
    simp only [schD, schC] at *
    rw [ZH (X := X) _ b121 _ rfl rfl]; unfold b121; exact rg0 (fA2 @hC @c1)
def keyedV (s : Sch) : Bool := if s.key = -1 then s.cmp == -1 && s.del == -1 else ofV s s.key 0 && (ofV s s.cmp 1 && (s.del == -1 || ofV s s.del 3))
theorem run81 {C : DV} {s : Sch} (hC : ∀ g, vw g 3 C = some (s.cols.map Cl.d)) (H : Zb) : E X 81 [schD C s] H = some (.bool (keyedV s), H) := by
  have e1 := fun g => run121 hC s.key 0 g
  have e2 := fun g => run121 hC s.cmp 1 g
  have e3 := fun g => run121 hC s.del 3 g
  unfold keyedV
  generalize ofV s s.key 0 = v1 at *
  generalize ofV s s.cmp 1 = v2 at *
  generalize ofV s s.del 3 = v3 at *
  obtain ⟨cols, k1, k2, k3, k4⟩ := s
  simp only [schD, schC] at *
  by_cases c1 : k1 = -1
  · subst c1
    by_cases c2 : k2 = -1
    · subst c2
      rw [ZH (X := X) _ b81 _ rfl rfl]; unfold b81; exact rg @e1
    · have d2 : (k2 == -1) = false := by simpa using c2
      rw [ZH (X := X) _ b81 _ rfl rfl]; unfold b81; exact rg (fA3 @e1 @c2 @d2)
  · have d1 : (k1 == -1) = false := by simpa using c1
    by_cases c3 : k3 = -1
    · subst c3
      cases v1 <;> cases v2
      all_goals
        rw [ZH (X := X) _ b81 _ rfl rfl]; unfold b81; exact rg (fA5 @e1 @e2 @e3 @c1 @d1)
    · have d3 : (k3 == -1) = false := by simpa using c3
      cases v1 <;> cases v2 <;> cases v3
      all_goals
        rw [ZH (X := X) _ b81 _ rfl rfl]; unfold b81; exact rg (fA7 @e1 @e2 @e3 @c1 @d1 @c3 @d3)
def colOkV (s : Sch) (i : Nat) (c : Cl) : Bool := nameV c.nm && (decide (1 ≤ c.kd) && (decide (c.kd ≤ 3) && (fidx (fun x => x.nm == c.nm) s.cols 0 == (i : Int))))
def colsV (s : Sch) : List Cl → Nat → Bool
  | [], _ => true
  | c :: l, i => colOkV s i c && colsV s l (i + 1)
set_option maxHeartbeats 1000000 in
theorem body53 {h : Zb} {Cd : DV} {s : Sch} {b i I : Nat} {c : Cl} (hC : ∀ g, vw g 3 Cd = some (s.cols.map Cl.d)) (hb : h[b]? = some (.box 24 (schC Cd s))) (hl : s.cols.length ≤ 1000) (hc : s.cols[i]? = some c) (z1 : IntKind.i64.wrap ((i : Int) + 1) = (I : Int)) :
    C X lp53_0 [(1, .ref b 0), (6, Cd), (7, .int .i64 s.cols.length), (8, .int .i64 i)] h = some (if colOkV s i c = true then (.norm, [(1, .ref b 0), (6, Cd), (7, .int .i64 s.cols.length), (8, .int .i64 I)], h ++ [.box 61 c.d.cells]) else (.ret, [(2, .bool false)], h ++ [.box 61 c.d.cells])) := by
  obtain ⟨ci, hc1⟩ := List.getElem?_eq_some_iff.1 hc
  have e39 := fun g => run79 c.nm g
  have e40 := fun g => run80 hC hl c.nm g
  have hb2 : ∀ G, (h ++ G)[b]? = some (.box 24 (schC Cd s)) := fun G => by rw [List.getElem?_append_left (List.getElem?_eq_some_iff.1 hb).1]; exact hb
  cases h1 : nameV c.nm
  · have hv : colOkV s i c = false := by simp [colOkV, h1]
    rw [hv, if_neg (by simp)]
    rw [h1] at e39
    obtain ⟨cn, ck, cl⟩ := c
    obtain ⟨cols, k1, k2, k3, k4⟩ := s
    simp only [schD, schC, Cl.d] at *
    have ci : i < cols.length := ci
    clear hv h1 e40
    unfold lp53_0
    refine rn0 (fA8 @ci @z1 @hC @hc @hc1 @e39 @hb @hb2) ?_
    simp [Za, lk, DV.cells]
  rw [h1] at e39
  by_cases h2 : 1 ≤ c.kd
  · have d2 : ¬ c.kd < 1 := by omega
    by_cases h3 : c.kd ≤ 3
    · have d3 : ¬ 3 < c.kd := by omega
      obtain ⟨r, hr⟩ : ∃ r, r = fidx (fun x : Cl => x.nm == c.nm) s.cols 0 := ⟨_, rfl⟩
      rw [← hr] at e40
      by_cases h4 : r = (i : Int)
      · have hv : colOkV s i c = true := by simp [colOkV, h1, h2, h3, ← hr, h4]
        rw [hv, if_pos rfl]
        subst h4
        obtain ⟨cn, ck, cl⟩ := c
        obtain ⟨cols, k1, k2, k3, k4⟩ := s
        simp only [schD, schC, Cl.d] at *
        have ci : i < cols.length := ci
        clear hv h1 hr
        unfold lp53_0
        refine rn0 (fA11 @ci @z1 @hC @hc @hc1 @e39 @e40 @d2 @d3 @hb @hb2) ?_
        simp [Za, lk, DV.cells]
      · have d4 : (r != (i : Int)) = true := by simpa using h4
        have hv : colOkV s i c = false := by simp [colOkV, h1, h2, h3, ← hr, h4]
        rw [hv, if_neg (by simp)]
        obtain ⟨cn, ck, cl⟩ := c
        obtain ⟨cols, k1, k2, k3, k4⟩ := s
        simp only [schD, schC, Cl.d] at *
        have ci : i < cols.length := ci
        clear hv h1 hr
        unfold lp53_0
        refine rn0 (fA13 @ci @z1 @hC @hc @hc1 @e39 @e40 @d2 @d3 @d4 @h4 @hb @hb2) ?_
        simp [Za, lk, DV.cells]
    · have d3 : 3 < c.kd := by omega
      have hv : colOkV s i c = false := by simp [colOkV, h3]
      rw [hv, if_neg (by simp)]
      obtain ⟨cn, ck, cl⟩ := c
      obtain ⟨cols, k1, k2, k3, k4⟩ := s
      simp only [schD, schC, Cl.d] at *
      have ci : i < cols.length := ci
      clear hv h1 e40
      unfold lp53_0
      refine rn0 (fA10 @ci @z1 @hC @hc @hc1 @e39 @d2 @d3 @hb @hb2) ?_
      simp [Za, lk, DV.cells]
  · have d2 : c.kd < 1 := by omega
    have hv : colOkV s i c = false := by simp [colOkV, h2]
    rw [hv, if_neg (by simp)]
    obtain ⟨cn, ck, cl⟩ := c
    obtain ⟨cols, k1, k2, k3, k4⟩ := s
    simp only [schD, schC, Cl.d] at *
    have ci : i < cols.length := ci
    clear hv h1 e40
    unfold lp53_0
    refine rn0 (fA9 @ci @z1 @hC @hc @hc1 @e39 @d2 @hb @hb2) ?_
    simp [Za, lk, DV.cells]
theorem loop53 {Cd : DV} {s : Sch} {b : Nat} (hC : ∀ g, vw g 3 Cd = some (s.cols.map Cl.d)) (hl : s.cols.length ≤ 1000) :
    ∀ (k i : Nat) (h : Zb), s.cols.length - i ≤ k → i ≤ s.cols.length → h[b]? = some (.box 24 (schC Cd s)) → (∃ ex G, C X (.loop lp53_0) [(1, .ref b 0), (6, Cd), (7, .int .i64 s.cols.length), (8, .int .i64 i)] h = some (.exit 0, (1, .ref b 0) :: ex, h ++ G) ∧ colsV s (s.cols.drop i) i = true) ∨ (∃ G, C X (.loop lp53_0) [(1, .ref b 0), (6, Cd), (7, .int .i64 s.cols.length), (8, .int .i64 i)] h = some (.ret, [(2, .bool false)], h ++ G) ∧ colsV s (s.cols.drop i) i = false) := by
  intro k
  induction k with
  | zero =>
    intro i h hk hi hb
    obtain rfl : i = s.cols.length := by omega
    refine .inl ⟨[(6, Cd), (7, .int .i64 s.cols.length), (8, .int .i64 s.cols.length), (9, .bool false)], [], ?_, by simp [colsV]⟩
    rw [Zf]
    unfold lp53_0
    refine rn trivial ?_
    rw [ZA]
    simp [Za, lk]
  | succ k ih =>
    intro i h hk hi hb
    by_cases c : i < s.cols.length
    · obtain ⟨I, hI⟩ : ∃ I, I = i + 1 := ⟨_, rfl⟩
      have z1 : IntKind.i64.wrap ((i : Int) + 1) = (I : Int) := (by rw [wrap64 _ (by omega) (by omega)]; omega)
      obtain ⟨x, hx⟩ : ∃ x, x = s.cols[i] := ⟨_, rfl⟩
      have hxi : s.cols[i]? = some x := by rw [hx]; exact List.getElem?_eq_getElem c
      have hd : s.cols.drop i = x :: s.cols.drop I := by rw [List.drop_eq_getElem_cons c, ← hx, hI]
      have hbd := body53 hC hb hl hxi z1
      rw [hd, colsV, Zf, hbd]
      cases h0 : colOkV s i x
      · right
        rw [if_neg (by simp), lp_ret]
        exact ⟨_, rfl, rfl⟩
      · rw [if_pos rfl, ZJ, ← hI, Bool.true_and]
        rcases ih I (h ++ [.box 61 x.d.cells]) (by omega) (by omega) (by rw [List.getElem?_append_left (List.getElem?_eq_some_iff.1 hb).1]; exact hb) with ⟨ex, G, h1, h2⟩ | ⟨G, h1, h2⟩
        · exact .inl ⟨ex, _, by rw [h1, List.append_assoc], h2⟩
        · exact .inr ⟨_, by rw [h1, List.append_assoc], h2⟩
    · exact ih i h (by omega) hi hb
def smayV (s : Sch) : Bool := colsV s s.cols 0 && (decide (1 ≤ s.cols.length) && (decide (s.cols.length ≤ 8) && (keyedV s && (decide (-1 ≤ s.sort) && decide (s.sort < s.cols.length)))))
set_option maxHeartbeats 1000000 in
theorem run53 {Cd : DV} {s : Sch} (hC : ∀ g, vw g 3 Cd = some (s.cols.map Cl.d)) (hl : s.cols.length ≤ 1000) (H : Zb) : E X 53 [schD Cd s] H = some (.bool (smayV s), H) := by
  have e41 := fun g => run81 hC g
  rcases loop53 (b := H.length) hC hl s.cols.length 0 (H ++ [.box 24 (schC Cd s)]) (by omega) (by omega) (by simp) with ⟨ex, G, hc, hf⟩ | ⟨G, hc, hf⟩
  · rw [List.drop_zero] at hf
    rw [show ((0 : Nat) : Int) = 0 from rfl] at hc
    have hb2 : (H ++ [HO.box 24 (schC Cd s)] ++ G)[H.length]? = some (.box 24 (schC Cd s)) := by rw [List.append_assoc]; simp
    generalize hh2 : H ++ [HO.box 24 (schC Cd s)] ++ G = h2 at hc hb2
    have hfin : ∀ bb : Bool, fin H h2 [.bool bb] = (.bool bb, H) := by
      intro bb
      have ht : h2.take H.length = H := by rw [← hh2, List.append_assoc, List.take_append_of_le_length (Nat.le_refl _)]; exact List.take_length
      simp [fin, ht, fz1, fz0]
    have key : ∀ bb, smayV s = bb → (∀ (r : DV), True) → True := fun _ _ _ => trivial
    have hm : smayV s = (decide (1 ≤ s.cols.length) && (decide (s.cols.length ≤ 8) && (keyedV s && (decide (-1 ≤ s.sort) && decide (s.sort < s.cols.length))))) := by rw [smayV, hf, Bool.true_and]
    rw [hm]
    clear hm hf hh2 key
    generalize keyedV s = kv at *
    obtain ⟨cols, k1, k2, k3, k4⟩ := s
    simp only [schD, schC] at *
    rw [ZH (X := X) _ b53 _ rfl rfl]; unfold b53
    refine rn @hC ?_
    refine keG ?_
    rw [hc]
    by_cases c1 : 1 ≤ cols.length
    · by_cases c2 : cols.length ≤ 8
      · have d1 : (1 : Int) ≤ (cols.length : Int) := by omega
        have d2 : (cols.length : Int) ≤ 8 := by omega
        cases kv
        · refine rn (fA7 @hC @hb2 @c1 @c2 @d1 @d2 @e41) ?_
          rw [Zv]
          simp [Ya, lk, Za, hfin, c1, c2]
        · by_cases c3 : -1 ≤ k4
          · refine rn (fA8 @hC @hb2 @c1 @c2 @d1 @d2 @c3 @e41) ?_
            rw [Zv]
            simp [Ya, lk, Za, hfin, c1, c2, c3]
          · refine rn (fA8 @hC @hb2 @c1 @c2 @d1 @d2 @c3 @e41) ?_
            rw [Zv]
            simp [Ya, lk, Za, hfin, c1, c2, c3]
      · have d1 : (1 : Int) ≤ (cols.length : Int) := by omega
        have d2 : ¬ (cols.length : Int) ≤ 8 := by omega
        refine rn (fA6 @hC @hb2 @c1 @c2 @d1 @d2) ?_
        rw [Zv]
        simp [Ya, lk, Za, hfin, c1, c2]
    · have d1 : ¬ (1 : Int) ≤ (cols.length : Int) := by omega
      refine rn (fA4 @hC @hb2 @c1 @d1) ?_
      rw [Zv]
      simp [Ya, lk, Za, hfin, c1]
  · rw [List.drop_zero] at hf
    rw [show ((0 : Nat) : Int) = 0 from rfl] at hc
    have hm : smayV s = false := by rw [smayV, hf, Bool.false_and]
    rw [hm]
    clear hm hf
    obtain ⟨cols, k1, k2, k3, k4⟩ := s
    simp only [schD, schC] at *
    rw [ZH (X := X) _ b53 _ rfl rfl]; unfold b53
    refine rn @hC ?_
    refine keG ?_
    rw [hc]
    refine rn trivial ?_
    exact re trivial
abbrev agD (x : Int × Int) : DV := .agg [.int .i64 x.1, .int .i64 x.2]
structure Qry where
  filter : List N
  cols : List Int
  group : List Int
  aggs : List (Int × Int)
  sort : List (Int × Bool)
  Yu : Int
/-- A list of numbers that is only read. -/
def SlI (A : DV) (l : List Int) : Prop := (∃ c, A = .list 1 (l.map intD) c) ∨ (A = .nils ∧ l = [])
theorem SlI.vw {A : DV} {l : List Int} (h : SlI A l) (g : Zb) : vw g 1 A = some (l.map intD) := by
  rcases h with ⟨c, rfl⟩ | ⟨rfl, rfl⟩ <;> rfl
theorem SlI.one {A : DV} {l : List Int} (h : SlI A l) : A.one = true := by
  rcases h with ⟨c, rfl⟩ | ⟨rfl, rfl⟩ <;> rfl
theorem nr_ints (l : List Int) : ∀ x ∈ l.map intD, Nr x := fun x hx => by
  obtain ⟨n, _, rfl⟩ := List.mem_map.1 hx
  exact .int _ _
theorem SlI.nr {A : DV} {l : List Int} (h : SlI A l) : Nr A := by
  rcases h with ⟨c, rfl⟩ | ⟨rfl, rfl⟩
  · exact .list (nr_ints l)
  · exact .nils
theorem SlI.elt {A B : DV} {l m : List Int} (h : SlI A l) (h2 : SlI B m) (g : Zb) : eltL [A, B] g = some ([A, B], g) := by
  rcases h with ⟨c, rfl⟩ | ⟨rfl, rfl⟩ <;> rcases h2 with ⟨c2, rfl⟩ | ⟨rfl, rfl⟩ <;> rfl
/-- A query's parts, at a heap, and behind it. -/
structure QV (H : Zb) (F Cn Gr Ag So : DV) (q : Qry) : Prop where
  f : ∀ G, vw (H ++ G) 8 F = some (q.filter.map N.d)
  c : SlI Cn q.cols
  g : SlI Gr q.group
  a : ∀ h, vw h 2 Ag = some (q.aggs.map agD)
  s : ∀ h, vw h 2 So = some (q.sort.map byD)
  nf : q.filter.length ≤ 1000
  nc : q.cols.length ≤ 1000
  ng : q.group.length ≤ 1000
  na : q.aggs.length ≤ 1000
  ns : q.sort.length ≤ 1000
theorem QV.ext {H : Zb} {F Cn Gr Ag So : DV} {q : Qry} (h : QV H F Cn Gr Ag So q) (G : Zb) : QV (H ++ G) F Cn Gr Ag So q :=
  { h with f := fun G' => by rw [List.append_assoc]; exact h.f _ }
theorem loop10 {h : Zb} {Cd : DV} {s : Sch} {b : Nat} (hC : ∀ g, vw g 3 Cd = some (s.cols.map Cl.d)) (hb : h[b]? = some (.box 24 (schC Cd s))) (hl : s.cols.length ≤ 1000) :
    ∀ (k i : Nat), s.cols.length - i ≤ k → i ≤ s.cols.length → (∃ ex, C X (.loop lp10_0) [(1, .ref b 0), (3, .int .i64 i)] h = some (.exit 0, (1, .ref b 0) :: ex, h)) ∨ C X (.loop lp10_0) [(1, .ref b 0), (3, .int .i64 i)] h = some (.ret, [(2, .bool false)], h) := by
  obtain ⟨cols, k1, k2, k3, k4⟩ := s
  simp only [schC] at *
  intro k
  induction k with
  | zero =>
    intro i hk hi
    obtain rfl : i = cols.length := by omega
    refine .inl ⟨[(3, .int .i64 cols.length), (12, .bool false)], ?_⟩
    rw [Zf]
    unfold lp10_0
    refine rn0 (fA2 @hC @hb) ?_
    rw [ZA]
    simp [Za, lk]
  | succ k ih =>
    intro i hk hi
    by_cases c : i < cols.length
    · obtain ⟨I, hI⟩ : ∃ I, I = i + 1 := ⟨_, rfl⟩
      have z1 : IntKind.i64.wrap ((i : Int) + 1) = (I : Int) := (by rw [wrap64 _ (by omega) (by omega)]; omega)
      obtain ⟨x, hx⟩ : ∃ x, x = cols[i] := ⟨_, rfl⟩
      have hxi : cols[i]? = some x := by rw [hx]; exact List.getElem?_eq_getElem c
      have hx' := hx.symm
      by_cases d : 100 < x.nm.size
      · right
        have d' : (100 : Int) < (x.nm.size : Int) := by omega
        have hs : C X lp10_0 [(1, .ref b 0), (3, .int .i64 i)] h = some (.ret, [(2, .bool false)], h) := by
          clear ih hx
          obtain ⟨cn, ck, cl⟩ := x
          simp only [Cl.d] at *
          unfold lp10_0
          refine rn0 (fA8 @c @z1 @hC @hb @hx' @hxi @d @d') ?_
          simp [Za, lk]
        rw [Zf, hs, lp_ret]
      · have d' : ¬ (100 : Int) < (x.nm.size : Int) := by omega
        have hs : C X lp10_0 [(1, .ref b 0), (3, .int .i64 i)] h = some (.norm, [(1, .ref b 0), (3, .int .i64 I)], h) := by
          clear ih hx
          obtain ⟨cn, ck, cl⟩ := x
          simp only [Cl.d] at *
          unfold lp10_0
          refine rn0 (fA8 @c @z1 @hC @hb @hx' @hxi @d @d') ?_
          simp [Za, lk]
        rw [Zf, hs, ZJ]
        exact ih I (by omega) (by omega)
    · exact ih i (by omega) hi
theorem run10 {Cd : DV} {s : Sch} (hC : ∀ g, vw g 3 Cd = some (s.cols.map Cl.d)) (H : Zb) : ∃ bb, E X 10 [schD Cd s] H = some (.bool bb, H) ∧ (bb = true → s.cols.length ≤ 12) := by
  by_cases c : 12 < s.cols.length
  · refine ⟨false, ?_, fun h => by cases h⟩
    have d : (12 : Int) < (s.cols.length : Int) := by omega
    obtain ⟨cols, k1, k2, k3, k4⟩ := s
    simp only [schD, schC] at *
    rw [ZH (X := X) _ b10 _ rfl rfl]; unfold b10; exact rg (fA3 @hC @c @d)
  · have d : ¬ (12 : Int) < (s.cols.length : Int) := by omega
    rcases loop10 (b := H.length) (h := H ++ [.box 24 (schC Cd s)]) hC (by simp) (by omega) s.cols.length 0 (by omega) (by omega) with ⟨ex, hc⟩ | hc
    · refine ⟨true, ?_, fun _ => by omega⟩
      rw [show ((0 : Nat) : Int) = 0 from rfl] at hc
      obtain ⟨cols, k1, k2, k3, k4⟩ := s
      simp only [schD, schC] at *
      rw [ZH (X := X) _ b10 _ rfl rfl]; unfold b10
      refine rn (fA3 @hC @c @d) ?_
      refine keG ?_
      rw [hc]
      refine rn trivial ?_
      exact re trivial
    · refine ⟨false, ?_, fun h => by cases h⟩
      rw [show ((0 : Nat) : Int) = 0 from rfl] at hc
      obtain ⟨cols, k1, k2, k3, k4⟩ := s
      simp only [schD, schC] at *
      rw [ZH (X := X) _ b10 _ rfl rfl]; unfold b10
      refine rn (fA3 @hC @c @d) ?_
      refine keG ?_
      rw [hc]
      refine rn trivial ?_
      exact re trivial
end Go.Proofs.YtmbgfbomgbdjeaaGreatDoor
