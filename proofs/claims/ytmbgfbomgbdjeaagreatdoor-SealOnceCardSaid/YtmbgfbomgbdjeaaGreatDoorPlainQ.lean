/- Ideal runs: DictSearches and DictPlaces. Ideal runs: DictPlaces. Ideal runs: what is sorted, of any length; dictionaries as a whole. Plain Lean: what is added, found and sorted. Ideal runs: the document's dictionary. -/
import Derived.Test.YtmbgfbomgbdjeaaGreatDoorStep
import Derived.Test.YtmbgfbomgbdjeaaGreatDoorPlainM
import Derived.Test.YtmbgfbomgbdjeaaGreatDoorSortB
namespace Go.Proofs.YtmbgfbomgbdjeaaGreatDoor
attribute [local go_sem] ZL ZD ZC ZE Zs Zh Zq Zk Zm Zc Ze Zl Zt Zu ZF Zr Zi ZB Zx Zw ZV Zz Yn put lk Od.v Za Zg Zn rdc Yd Ye Yc unx eqk DV.isU DV.cells hget ZP Yb ZO Zp splice ZQ mat ZW eqs one_bool one_int one_str one_nilp one_ref one_elem one_nils one_list one_row one_nilm one_map one_nilf one_func one_nili one_ifc one_agg one_tup Yv Yw
attribute [local go_sem ↓] Zj
set_option linter.unusedVariables false
set_option linter.unusedSimpArgs false
set_option maxRecDepth 10000
theorem ltSWO : Go.Sort.SWO lt where
  irrefl x := by have := ord_self x; simp [lt]; omega
  trans x y z h1 h2 := by
    have := ord_trans x y z (lt_pos h1) (lt_pos h2)
    simp [lt, this]
  ntrans x y z h1 h2 := by
    cases h : lt x z
    · rfl
    · rcases ord_or x y z (lt_pos h) with h3 | h3
      · exact absurd h3 (lt_neg h1)
      · exact absurd h3 (lt_neg h2)
theorem run122 {n r g : Nat} (hn : n < 256) (H : Zb) (d : Array V) (hr : r < H.length) (hd : d.size = n) : ∃ l, E X 122 [Yk r g n, .int .i64 0, .int .i64 n, .int .i64 (Go.Sort.bitsLen n : Nat), .func 68 [] []] (hp H r g d) = some (.tup [], hp (H ++ l) r g (Go.Sort.sort lt d)) := by
  have h8 := bitsLen_lt n hn
  have h := pdq_run (r := r) (g := g) hn n 0 n (Go.Sort.bitsLen n) true true d H (by omega) (by omega) (Nat.le_refl _) hd (by omega) hr
  obtain ⟨l, h2⟩ := pd_of hr h.1
  refine ⟨l, ?_⟩
  rw [Go.Sort.sort, hd]
  exact h2
theorem run31L {n : Nat} (hn : n < 256) {H : Zb} {r g : Nat} (hr : r < H.length) (d : Array V) (hd : d.size = n) :
    ∃ l, E X 88 [Yk r g n, .func 68 [] []] (hp H r g d) = some (.tup [], hp (H ++ l) r g (Go.Sort.sort lt d)) := by
  obtain ⟨l, e⟩ := run122 (g := g) hn H d hr hd
  have e2 := run74 n hn
  have r0 := hp_vw (H := H) g d hr
  rw [hd] at r0
  have w : IntKind.u64.wrap (n : Int) = n := by simp [IntKind.wrap, IntKind.bits, IntKind.signed]; omega
  obtain ⟨l', h2⟩ := fin_grow (g := g) hr d (Go.Sort.sort lt d) l
  refine ⟨l', ?_⟩
  rw [ZH (X := X) _ b88 _ rfl rfl]; unfold b88
  refine rn (fA5 @e @e2 @r0 @hd @w) ?_
  simp only [ZS, Ya, Option.map_some]
  rw [h2]
theorem sort_perm (vs : List V) : (Go.Sort.sort lt vs.toArray).toList.Perm vs := by
  have h := (Go.Sort.sort_sorts lt ltSWO vs.toArray).1
  have h3 := h.2.2
  rw [List.size_toArray] at h3 h
  have e1 : (Go.Sort.sort lt vs.toArray).extract 0 vs.length = Go.Sort.sort lt vs.toArray := by
    have hs : (Go.Sort.sort lt vs.toArray).size = vs.length := by rw [h.1]; simp
    rw [← hs]; exact Array.extract_size
  have e2 : vs.toArray.extract 0 vs.length = vs.toArray := by
    have : vs.toArray.size = vs.length := by simp
    rw [← this]; exact Array.extract_size
  rw [e1, e2] at h3
  simpa using h3
theorem run18L {H : Zb} {o m : Nat} {L : DV} {Yu : Int} {vs : List V} (hd : DictAt H o m L Yu vs) (hv : vs ≠ []) (hn : vs.length < 256) {ys : List V} (hys : ys = (Go.Sort.sort lt vs.toArray).toList) :
    E X 59 [.ref o 0] H = some (.tup [.list 4 (ys.map V.d) false, .list 1 (toS ys vs) false], H) := by
  have hyl : ys.length = vs.length := by rw [hys]; exact (sort_perm vs).length_eq
  have hys' : Go.Sort.sort lt vs.toArray = ys.toArray := by rw [hys]
  have e1 := run86 hd
  have e2 := hd.box
  have e2' := hle hd.box
  have e3 := hd.len
  have e3' := hd.len0
  have hpos : vs.length ≠ 0 := by simpa using hv
  have hb0 : ((vs.length : Int) == 0) = false := by simpa using hv
  obtain ⟨r, g, rfl, hrow⟩ : ∃ r g, L = .row r g 0 vs.length false ∧ H[r]? = some (.row 56 4 g (vs.map V.d)) := by
    rcases hd.row with ⟨h, _⟩ | h
    · exact absurd h hv
    · exact h
  have e4 := run87 hv e3' (by omega)
  obtain ⟨l0, e5⟩ : ∃ l0, E X 88 [.row H.length 0 0 vs.length false, .func 68 [] []] (H ++ [HO.row 56 4 0 (vs.map V.d)]) = some (.tup [], H ++ [HO.row 56 4 0 (ys.map V.d)] ++ l0) := by
    obtain ⟨l0, h⟩ := run31L hn (H := H ++ [HO.row 56 4 0 (vs.map V.d)]) (r := H.length) (g := 0) (by simp) vs.toArray (by simp)
    rw [← toL_hp (g := 0) vs.toArray _ (by simp), hys'] at h
    refine ⟨l0, ?_⟩
    rw [h]
    simp [hp, ZO]
  have hL : ∀ l, vw ((H ++ [HO.row 56 4 0 (ys.map V.d)]) ++ l) 4 (.row r g 0 vs.length false) = some (vs.map V.d) := fun l => by rw [List.append_assoc]; exact e3 _
  have hY : ∀ l, vw ((H ++ [HO.row 56 4 0 (ys.map V.d)]) ++ l) 4 (.row H.length 0 0 vs.length false) = some (ys.map V.d) := fun l => by
    simp [vw, ← hyl, List.take_of_length_le]
  obtain ⟨e', T', l', c1, c2, c3, c4⟩ := loop59 hL hY (by omega) (by omega) vs.length 0 .nils l0 (by omega) (by omega) (.inl ⟨by simp [toS], rfl⟩)
  have c5 := fin_sorted hyl.symm (by simpa using c4) (by simpa [toS] using hv) (by intro x hx; obtain ⟨v, _, rfl⟩ := List.mem_map.1 hx; exact .int _ _)
  have hL0 := hL l0
  rw [show ((0 : Nat) : Int) = 0 from rfl] at c1
  have e2'' : (H ++ [HO.row 56 4 0 (ys.map V.d)] ++ l0)[o]? = some (.box 117 [.int .i64 Yu, .row r g 0 vs.length false, .map m]) := by rw [List.append_assoc]; exact e2' _
  generalize hG : H ++ [HO.row 56 4 0 (ys.map V.d)] ++ l0 = G at e5 c1 hL0 e2''
  rw [ZH (X := X) _ b59 _ rfl rfl]; unfold b59
  refine rn (fA9 @e1 @e2 @e2' @e2'' @e3' @hb0 @e4 @e5 @hL0) ?_
  refine keG ?_
  rw [c1]
  refine rn (fA2 @c2 @c3) ?_
  simp only [Zv, Ya, Za, List.map_cons, List.map_nil, lk, reduceIte, Nat.reduceEqDiff, Option.map_some]
  simp only [List.append_assoc, List.cons_append, List.nil_append] at c5 ⊢
  rw [c5]
theorem run18E {H : Zb} {o m : Nat} {L : DV} {Yu : Int} (hd : DictAt H o m L Yu []) : E X 59 [.ref o 0] H = some (.tup [.nils, .nils], H) := by
  have e1 := run86 hd
  simp at e1
  rw [ZH (X := X) _ b59 _ rfl rfl]; unfold b59; exact rg @e1
/-- What adding does. -/
def addS (Yu : Int) (vs : List V) (v : V) : Int × Int × List V :=
  if mayV v = true then
    match fnd v vs 0 with
    | some j => (j, 0, vs)
    | none => if Yu ≤ vs.length then (0, 4, vs) else (vs.length, 0, vs ++ [v])
  else (0, 1, vs)
theorem run58_all {H : Zb} {o m : Nat} {L : DV} {Yu : Int} {vs : List V} (hd : DictAt H o m L Yu vs) (hb : Yu ≤ 4096) (v : V) :
    ∃ L' H', E X 58 [.ref o 0, v.d] H = some (.tup [.int .i64 (addS Yu vs v).1, .int .i64 (addS Yu vs v).2.1], H') ∧ DictAt H' o m L' Yu (addS Yu vs v).2.2 ∧ H.length ≤ H'.length ∧
      (∀ i < H.length, i ≠ o → i ≠ m → rowOf L ≠ some i → H'[i]? = H[i]?) ∧ (rowOf L' = rowOf L ∨ ∃ r, rowOf L' = some r ∧ H.length ≤ r) := by
  unfold addS
  cases hm : mayV v
  · rw [if_neg (by simp)]
    exact ⟨L, H, run58_no hd v hm, hd, Nat.le_refl _, fun _ _ _ _ _ => rfl, .inl rfl⟩
  · rw [if_pos rfl]
    cases hf : fnd v vs 0 with
    | some j => exact ⟨L, H, run58_is hd v hm hf, hd, Nat.le_refl _, fun _ _ _ _ _ => rfl, .inl rfl⟩
    | none =>
      simp only
      by_cases hl : Yu ≤ vs.length
      · rw [if_pos hl]
        exact ⟨L, H, run58_full hd v hm hf hl, hd, Nat.le_refl _, fun _ _ _ _ _ => rfl, .inl rfl⟩
      · rw [if_neg hl]
        exact run58_add hd v hm hf (by omega) hb
theorem DictAt.keep {H H' : Zb} {o m : Nat} {L : DV} {Yu : Int} {vs : List V} (hd : DictAt H o m L Yu vs) (ho : H'[o]? = H[o]?) (hm : H'[m]? = H[m]?) (hL : ∀ r, rowOf L = some r → H'[r]? = H[r]?) : DictAt H' o m L Yu vs :=
  ⟨ho.trans hd.box, hm.trans hd.map, by
    rcases hd.row with h | ⟨r, g, h1, h2⟩
    · exact .inl h
    · exact .inr ⟨r, g, h1, (hL r (by rw [h1]; rfl)).trans h2⟩⟩
theorem GrowAt.keep {n0 t sz : Nat} {H H' : Zb} {N : DV} {ns : List DV} (hg : GrowAt n0 t sz H N ns) (hN : ∀ r, rowOf N = some r → H'[r]? = H[r]?) : GrowAt n0 t sz H' N ns := by
  rcases hg with h | ⟨r, g, h1, h2, h3⟩
  · exact .inl h
  · exact .inr ⟨r, g, h1, h2, (hN r (by rw [h1]; rfl)).trans h3⟩
theorem bl_antisymm : ∀ x y : List UInt8, Op.bytesLess x y = false → Op.bytesLess y x = false → x = y
  | [], [], _, _ => rfl
  | [], b :: y, h, _ => by simp [Op.bytesLess] at h
  | a :: x, [], _, h => by simp [Op.bytesLess] at h
  | a :: x, b :: y, h, h' => by
    simp only [Op.bytesLess, Bool.or_eq_false_iff, Bool.and_eq_false_iff, decide_eq_false_iff_not, beq_eq_false_iff_ne, ne_eq] at h h'
    have e : a = b := by
      have h1 := h.1; have h2 := h'.1
      rw [UInt8.lt_iff_toNat_lt] at h1 h2
      exact UInt8.toNat_inj.1 (by omega)
    subst e
    have h1 : Op.bytesLess x y = false := by rcases h.2 with h | h; exact absurd rfl h; exact h
    have h2 : Op.bytesLess y x = false := by rcases h'.2 with h | h; exact absurd rfl h; exact h
    rw [bl_antisymm x y h1 h2]
theorem beq_nil {s : ByteArray} (h : (s == ⟨#[]⟩) = true) : s = ⟨#[]⟩ := by
  have h' : (s.data == #[]) = true := h
  cases s
  simp at h' ⊢
  exact h'
theorem ord_antisymm {a b : V} (ha : mayV a = true) (hb : mayV b = true) (h1 : ¬ ord a b < 0) (h2 : ¬ ord b a < 0) : a = b := by
  rw [ord_neg] at h1 h2
  obtain ⟨k, n, s, t⟩ := a
  obtain ⟨k', n', s', t'⟩ := b
  simp only at h1 h2
  have hk : k = k' := by omega
  subst hk
  unfold mayV at ha hb
  simp only at ha hb
  by_cases q1 : k = 1
  · rw [if_pos q1] at ha hb
    simp only [Bool.and_eq_true, Bool.not_eq_true'] at ha hb
    rw [beq_nil ha.1, beq_nil hb.1, ha.2, hb.2]
    have : n = n' := by omega
    rw [this]
  rw [if_neg q1] at ha hb
  by_cases q2 : k = 2
  · rw [if_pos q2] at ha hb
    simp only [Bool.and_eq_true, Bool.not_eq_true', beq_iff_eq] at ha hb
    have e1 : ltS s s' = false := by
      cases h : ltS s s'
      · rfl
      · exact absurd (.inr ⟨rfl, .inr (.inl ⟨q2, h⟩)⟩) h1
    have e2 : ltS s' s = false := by
      cases h : ltS s' s
      · rfl
      · exact absurd (.inr ⟨rfl, .inr (.inl ⟨q2, h⟩)⟩) h2
    unfold ltS at e1 e2
    have e3 := bl_antisymm _ _ e1 e2
    rw [ByteArray.toList_eq, ByteArray.toList_eq] at e3
    have e4 : s = s' := by
      cases s; cases s'
      simp at e3 ⊢
      exact e3
    rw [ha.1.1, hb.1.1, ha.1.2, hb.1.2, e4]
  rw [if_neg q2] at ha hb
  by_cases q3 : k = 3
  · rw [if_pos q3] at ha hb
    simp only [Bool.and_eq_true, beq_iff_eq] at ha hb
    rw [ha.1, hb.1, beq_nil ha.2, beq_nil hb.2]
    cases t <;> cases t'
    · rfl
    · exact absurd (.inr ⟨rfl, .inr (.inr ⟨q3, rfl, rfl⟩)⟩) h1
    · exact absurd (.inr ⟨rfl, .inr (.inr ⟨q3, rfl, rfl⟩)⟩) h2
    · rfl
  rw [if_neg q3] at ha hb
  by_cases q4 : k = 0
  · rw [if_pos q4] at ha hb
    simp only [Bool.and_eq_true, Bool.not_eq_true', beq_iff_eq] at ha hb
    rw [ha.1.1, hb.1.1, beq_nil ha.1.2, beq_nil hb.1.2, ha.2, hb.2]
  · rw [if_neg q4] at ha
    cases ha
/-- The values of a dictionary. -/
def Gd (vs : List V) : Prop := (∀ x ∈ vs, mayV x = true) ∧ vs.Pairwise (· ≠ ·)
theorem gd_nil : Gd [] := ⟨by simp, List.Pairwise.nil⟩
theorem fnd_none_mem {v : V} {l : List V} {i : Nat} (h : fnd v l i = none) : v ∉ l := fun hm => by
  have := fnd_none v l i h v hm
  rw [(V.eqb_iff v v).2 rfl] at this; cases this
theorem addS_gd (Yu : Int) {vs : List V} (v : V) (h : Gd vs) : Gd (addS Yu vs v).2.2 := by
  unfold addS
  cases hm : mayV v
  · exact h
  · rw [if_pos rfl]
    cases hf : fnd v vs 0 with
    | some j => exact h
    | none =>
      simp only
      split
      · exact h
      · refine ⟨fun x hx => ?_, ?_⟩
        · rcases List.mem_append.1 hx with hx | hx
          · exact h.1 x hx
          · simp at hx; rw [hx]; exact hm
        · rw [List.pairwise_append]
          refine ⟨h.2, List.pairwise_singleton _ _, fun a ha b hb => ?_⟩
          simp at hb
          subst hb
          rintro rfl
          exact fnd_none_mem hf ha
theorem addS_ext (Yu : Int) (vs : List V) (v : V) : ∃ t, (addS Yu vs v).2.2 = vs ++ t := by
  unfold addS
  split
  · split
    · exact ⟨[], by simp⟩
    · split
      · exact ⟨[], by simp⟩
      · exact ⟨[v], rfl⟩
  · exact ⟨[], by simp⟩
theorem addS_len (Yu : Int) (vs : List V) (v : V) : (addS Yu vs v).2.2.length ≤ vs.length + 1 := by
  unfold addS
  split
  · split
    · simp
    · split <;> simp
  · simp
theorem addS_ok {Yu : Int} {vs : List V} {v : V} (h : (addS Yu vs v).2.1 = 0) : ∃ j : Nat, (addS Yu vs v).1 = (j : Int) ∧ (addS Yu vs v).2.2[j]? = some v := by
  unfold addS at h ⊢
  cases hm : mayV v
  · rw [hm] at h; simp at h
  · rw [hm] at h
    rw [if_pos rfl] at h ⊢
    cases hf : fnd v vs 0 with
    | some j =>
      obtain ⟨_, _, h3⟩ := fnd_lt v vs 0 j hf
      exact ⟨j, rfl, by simpa using h3⟩
    | none =>
      rw [hf] at h
      simp only at h ⊢
      by_cases hl : Yu ≤ vs.length
      · rw [if_pos hl] at h; simp at h
      · rw [if_neg hl]
        exact ⟨vs.length, rfl, by simp⟩
theorem sort_up {vs : List V} (h : Gd vs) : Up (Go.Sort.sort lt vs.toArray).toList := by
  have hs := (Go.Sort.sort_sorts lt ltSWO vs.toArray)
  have hp := sort_perm vs
  have hz : (Go.Sort.sort lt vs.toArray).size = vs.length := by rw [hs.1.1]; simp
  have hpw : (Go.Sort.sort lt vs.toArray).toList.Pairwise (· ≠ ·) := (hp.pairwise_iff (fun h => Ne.symm h)).2 h.2
  have hso := hs.2
  rw [List.size_toArray] at hso
  rw [Up, List.pairwise_iff_getElem]
  intro i j hi hj hij
  have h1 := hso i j (Nat.zero_le _) hij (by simp at hj; omega)
  simp only [Array.length_toList] at hi hj
  rw [getElem!_pos _ i hi, getElem!_pos _ j hj] at h1
  have hne := List.pairwise_iff_getElem.1 hpw i j (by simpa using hi) (by simpa using hj) hij
  simp only [Array.getElem_toList] at hne ⊢
  refine Decidable.byContradiction fun hc => ?_
  have m1 : mayV (Go.Sort.sort lt vs.toArray)[i] = true := h.1 _ (hp.mem_iff.1 (by simp))
  have m2 : mayV (Go.Sort.sort lt vs.toArray)[j] = true := h.1 _ (hp.mem_iff.1 (by simp))
  exact hne (ord_antisymm m1 m2 hc (lt_neg h1))
/-- Two lists that rise, of the same values, are one. -/
theorem up_ext : ∀ (xs ys : List V), Up xs → Up ys → (∀ v, v ∈ xs ↔ v ∈ ys) → xs = ys
  | [], [], _, _, _ => rfl
  | [], b :: ys, _, _, h => by have := (h b).2 (by simp); simp at this
  | a :: xs, [], _, _, h => by have := (h a).1 (by simp); simp at this
  | a :: xs, b :: ys, hx, hy, h => by
    have px := List.pairwise_cons.1 hx
    have py := List.pairwise_cons.1 hy
    have hab : a = b := by
      rcases List.mem_cons.1 ((h a).1 (by simp)) with e | e
      · exact e
      · rcases List.mem_cons.1 ((h b).2 (by simp)) with e' | e'
        · exact e'.symm
        · exact absurd (ord_trans _ _ _ (px.1 b e') (py.1 a e)) (ord_self a)
    subst hab
    rw [up_ext xs ys px.2 py.2 (fun v => ⟨fun hv => ?_, fun hv => ?_⟩)]
    · rcases List.mem_cons.1 ((h v).1 (by simp [hv])) with e | e
      · subst e; exact absurd (px.1 v hv) (ord_self v)
      · exact e
    · rcases List.mem_cons.1 ((h v).2 (by simp [hv])) with e | e
      · subst e; exact absurd (py.1 v hv) (ord_self v)
      · exact e
theorem up_at_place {ys : List V} (h : Up ys) {v : V} (hm : v ∈ ys) : ys[place ys v]? = some v ∧ found ys v = true := by
  have hf := found_iff h v
  have hs : (fnd v ys 0).isSome = true := by
    cases hq : fnd v ys 0 with
    | none => exact absurd hm (fnd_none_mem hq)
    | some j => rfl
  rw [hs] at hf
  refine ⟨?_, hf⟩
  unfold found at hf
  cases hx : ys[place ys v]? with
  | none => rw [hx] at hf; simp at hf
  | some x => rw [hx] at hf; simp at hf; rw [(V.eqb_iff _ _).1 hf]
theorem up_ris : ∀ (l : List V) (p : Option V), Up (p.toList ++ l) → (∀ x ∈ l, mayV x = true) → risL p l = true
  | [], p, _, _ => by cases p <;> rfl
  | a :: l, none, h, hm => by
    simp only [risL, Bool.and_eq_true]
    exact ⟨hm a (by simp), up_ris l (some a) h (fun x hx => hm x (by simp [hx]))⟩
  | a :: l, some p, h, hm => by
    simp only [risL, Bool.and_eq_true, decide_eq_true_eq]
    have h' := List.pairwise_cons.1 h
    exact ⟨hm a (by simp), h'.1 a (by simp), up_ris l (some a) h'.2 (fun x hx => hm x (by simp [hx]))⟩
theorem loop20x {h : Zb} {A B : DV} {xs : List V} (hA : vw h 4 A = some (xs.map V.d)) (hB : vw h 4 B = some (xs.map V.d)) (hb : xs.length ≤ 1000000) :
    ∀ (k i : Nat), xs.length - i ≤ k → i ≤ xs.length → ∃ e', C X (.loop lp20_0) [(0, A), (1, B), (5, .int .i64 i)] h = some (.exit 0, e', h) := by
  intro k
  induction k with
  | zero =>
    intro i hk hi
    obtain rfl : i = xs.length := by omega
    rw [Zf]
    unfold lp20_0
    refine rn @hA ?_
    rw [ZA]
    exact ⟨_, rfl⟩
  | succ k ih =>
    intro i hk hi
    by_cases w0 : i < xs.length
    · obtain ⟨I, hI⟩ : ∃ I, I = i + 1 := ⟨_, rfl⟩
      have w1 : IntKind.i64.wrap ((i : Int) + 1) = (I : Int) := (by rw [wrap64 _ (by omega) (by omega)]; omega)
      have hs : C X lp20_0 [(0, A), (1, B), (5, .int .i64 i)] h = some (.norm, [(0, A), (1, B), (5, .int .i64 I)], h) := by
        unfold lp20_0
        refine rn0 (fA5 @hA @hB @w0 @w1 @beq_bytes) ?_
        simp [Za, lk]
      rw [Zf, hs, ZJ]
      exact ih I (by omega) (by omega)
    · exact ih i (by omega) hi
theorem run20x {h : Zb} {A B : DV} {xs : List V} (hA : vw h 4 A = some (xs.map V.d)) (hB : vw h 4 B = some (xs.map V.d)) (hb : xs.length ≤ 1000000) : E X 20 [A, B] h = some (.bool true, h) := by
  obtain ⟨e', c1⟩ := loop20x hA hB hb xs.length 0 (by omega) (by omega)
  have hl2 : ((xs.length : Int) != xs.length) = false := by simp
  rw [show ((0 : Nat) : Int) = 0 from rfl] at c1
  rw [ZH (X := X) _ b20 _ rfl rfl]; unfold b20
  refine rn (fA3 @hA @hB @hl2) ?_
  refine keG ?_
  rw [c1]
  refine rn trivial ?_
  exact re trivial
/-- A list that is only read. -/
def RefL (R : DV) (rs : List V) : Prop := R = .list 4 (rs.map V.d) false ∨ (R = .nils ∧ rs = [])
theorem RefL.vw {R : DV} {rs : List V} (h : RefL R rs) (g : Zb) : vw g 4 R = some (rs.map V.d) := by
  rcases h with rfl | ⟨rfl, rfl⟩ <;> rfl
/-- Two rows that are filled. -/
def hq (H : Zb) (os : List V) (ts : List Int) : Zb := H ++ [.row 56 4 0 (os.map V.d), .row 3 1 0 (ts.map (.int .i64))]
section
variable {H : Zb} {os : List V} {ts : List Int} {n : Nat}
end
theorem up_place {ys : List V} (hu : Up ys) {p : Nat} {x : V} (hx : ys[p]? = some x) : place ys x = p := by
  have h1 := (up_at_place hu (List.mem_of_getElem? hx)).1
  rcases Nat.lt_trichotomy (place ys x) p with h | h | h
  · exact absurd (up_at hu h h1 hx) (ord_self x)
  · exact h
  · exact absurd (up_at hu h hx h1) (ord_self x)
end Go.Proofs.YtmbgfbomgbdjeaaGreatDoor
