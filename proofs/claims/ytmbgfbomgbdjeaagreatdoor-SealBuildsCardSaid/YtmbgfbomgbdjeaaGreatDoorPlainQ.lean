/- Ideal runs. -/
import Derived.Test.YtmbgfbomgbdjeaaGreatDoorStep
import Derived.Test.YtmbgfbomgbdjeaaGreatDoorPlainM
import Derived.Test.YtmbgfbomgbdjeaaGreatDoorSortB
namespace Go.Proofs.YtmbgfbomgbdjeaaGreatDoor
attribute [local go_sem] ZN ZG ZF ZH Zt Zh Zp Zk Zm Ze Zf Zl Zu Zv ZI Zs Zi ZE Zy Zx ZX ZA Yp put lk Od.v Za Zg Zo ax Yg Yh Yd ay eqk DV.isU DV.cells ae ZO Yb ZP Zr splice ZR af ZY eqs bJ cr bY bz cg bH bw bF bZ bA cm bE bG bC cu cw bW Yx Yy
attribute [local go_sem ↓] Zj
set_option linter.unusedVariables false
set_option linter.unusedSimpArgs false
set_option maxRecDepth 10000
theorem Kj : Go.Sort.SWO lt where
 irrefl x := by have := gB x; simp [lt]; omega
 trans x y z h1 h2 := by
  have := oS x y z (dP h1) (dP h2)
  simp [lt, this]
 ntrans x y z h1 h2 := by
  cases h : lt x z
  ·rfl
  ·rcases ED x y z (dP h) with h3 | h3
   ·exact absurd h3 (dQ h1)
   ·exact absurd h3 (dQ h2)
theorem M0 {n r g : Nat} (hn : n < 256) (H : Zb) (d : Array V) (hr : r < H.length) (hd : d.size = n) : ∃ l, E X 122 [Ym r g n, .int .i64 0, .int .i64 n, .int .i64 (Go.Sort.bitsLen n : Nat), .func 68 [] []] (hp H r g d) = some (.tup [], hp (H ++ l) r g (Go.Sort.sort lt d)) := by
 have h8 := qG n hn
 have h := Lb (r := r) (g := g) hn n 0 n (Go.Sort.bitsLen n) true true d H (by omega) (by omega) (Nat.le_refl _) hd (by omega) hr
 obtain ⟨l, h2⟩ := C6 hr h.1
 refine ⟨l, ?_⟩
 rw [Go.Sort.sort, hd]
 exact h2
theorem MA {n : Nat} (hn : n < 256) {H : Zb} {r g : Nat} (hr : r < H.length) (d : Array V) (hd : d.size = n) :
 ∃ l, E X 88 [Ym r g n, .func 68 [] []] (hp H r g d) = some (.tup [], hp (H ++ l) r g (Go.Sort.sort lt d)) := by
 obtain ⟨l, e⟩ := M0 (g := g) hn H d hr hd
 have e2 := J0 n hn
 have r0 := vP (H := H) g d hr
 rw [hd] at r0
 have w : IntKind.u64.wrap (n : Int) = n := by simp [IntKind.wrap, IntKind.bits, IntKind.signed]; omega
 obtain ⟨l', h2⟩ := AO (g := g) hr d (Go.Sort.sort lt d) l
 refine ⟨l', ?_⟩
 rw [Zz (X := X) _ P7 _ rfl rfl]; unfold P7
 refine rn (ej @e @e2 @r0 @hd @w) ?_
 simp only [ZS, ZW, Option.map_some]
 rw [h2]
theorem oK (vs : List V) : (Go.Sort.sort lt vs.toArray).toList.Perm vs := by
 have h := (Go.Sort.sort_sorts lt Kj vs.toArray).1
 have h3 := h.2.2
 rw [List.size_toArray] at h3 h
 have e1 : (Go.Sort.sort lt vs.toArray).extract 0 vs.length = Go.Sort.sort lt vs.toArray := by
  have hs : (Go.Sort.sort lt vs.toArray).size = vs.length := by rw [h.1]; simp
  rw [← hs]; exact Array.extract_size
 have e2 : vs.toArray.extract 0 vs.length = vs.toArray := by
  have : vs.toArray.size = vs.length := by simp
  rw [← this]; exact Array.extract_size
 rw [e1, e2] at h3
 simpa using h3
theorem MD {H : Zb} {o m : Nat} {L : DV} {Yw : Int} {vs : List V} (hd : DictAt H o m L Yw vs) (hv : vs ≠ []) (hn : vs.length < 256) {ys : List V} (hys : ys = (Go.Sort.sort lt vs.toArray).toList) :
 E X 59 [.ref o 0] H = some (.tup [.list 4 (ys.map V.d) false, .list 1 (toS ys vs) false], H) := by
 have vG : ys.length = vs.length := by rw [hys]; exact (oK vs).length_eq
 have TI : Go.Sort.sort lt vs.toArray = ys.toArray := by rw [hys]
 have e1 := JZ hd
 have e2 := hd.box
 have S7 := hle hd.box
 have e3 := hd.len
 have S5 := hd.len0
 have hpos : vs.length ≠ 0 := by simpa using hv
 have hb0 : ((vs.length : Int) == 0) = false := by simpa using hv
 obtain ⟨r, g, rfl, hrow⟩ : ∃ r g, L = .row r g 0 vs.length false ∧ H[r]? = some (.row 56 4 g (vs.map V.d)) := by
  rcases hd.row with ⟨h, _⟩ | h
  ·exact absurd h hv
  ·exact h
 have e4 := QI hv S5 (by omega)
 obtain ⟨l0, e5⟩ : ∃ l0, E X 88 [.row H.length 0 0 vs.length false, .func 68 [] []] (H ++ [HO.row 56 4 0 (vs.map V.d)]) = some (.tup [], H ++ [HO.row 56 4 0 (ys.map V.d)] ++ l0) := by
  obtain ⟨l0, h⟩ := MA hn (H := H ++ [HO.row 56 4 0 (vs.map V.d)]) (r := H.length) (g := 0) (by simp) vs.toArray (by simp)
  rw [← Mh (g := 0) vs.toArray _ (by simp), TI] at h
  refine ⟨l0, ?_⟩
  rw [h]
  simp [hp, ZP]
 have hL : ∀ l, vw ((H ++ [HO.row 56 4 0 (ys.map V.d)]) ++ l) 4 (.row r g 0 vs.length false) = some (vs.map V.d) := fun l => by rw [List.append_assoc]; exact e3 _
 have hY : ∀ l, vw ((H ++ [HO.row 56 4 0 (ys.map V.d)]) ++ l) 4 (.row H.length 0 0 vs.length false) = some (ys.map V.d) := fun l => by
  simp [vw, ← vG, List.take_of_length_le]
 obtain ⟨e', T', l', c1, c2, c3, c4⟩ := NF hL hY (by omega) (by omega) vs.length 0 .nils l0 (by omega) (by omega) (.inl ⟨by simp [toS], rfl⟩)
 have c5 := DF vG.symm (by simpa using c4) (by simpa [toS] using hv) (by intro x hx; obtain ⟨v, _, rfl⟩ := List.mem_map.1 hx; exact .int _ _)
 have yq := hL l0
 rw [show ((0 : Nat) : Int) = 0 from rfl] at c1
 have PE : (H ++ [HO.row 56 4 0 (ys.map V.d)] ++ l0)[o]? = some (.box 117 [.int .i64 Yw, .row r g 0 vs.length false, .map m]) := by rw [List.append_assoc]; exact S7 _
 generalize hG : H ++ [HO.row 56 4 0 (ys.map V.d)] ++ l0 = G at e5 c1 yq PE
 rw [Zz (X := X) _ GL _ rfl rfl]; unfold GL
 refine rn (gI @e1 @e2 @S7 @PE @S5 @hb0 @e4 @e5 @yq) ?_
 refine aj ?_
 rw [c1]
 refine rn (aL @c2 @c3) ?_
 simp only [Zn, ZW, Za, List.map_cons, List.map_nil, lk, reduceIte, Nat.reduceEqDiff, Option.map_some]
 simp only [List.append_assoc, List.cons_append, List.nil_append] at c5 ⊢
 rw [c5]
theorem ME {H : Zb} {o m : Nat} {L : DV} {Yw : Int} (hd : DictAt H o m L Yw []) : E X 59 [.ref o 0] H = some (.tup [.nils, .nils], H) := by
 have e1 := JZ hd
 simp at e1
 rw [Zz (X := X) _ GL _ rfl rfl]; unfold GL; exact rg @e1
def eF (Yw : Int) (vs : List V) (v : V) : Int × Int × List V :=
 if aG v = true then
  match dR v vs 0 with
  | some j => (j, 0, vs)
  | none => if Yw ≤ vs.length then (0, 4, vs) else (vs.length, 0, vs ++ [v])
 else (0, 1, vs)
theorem El {H : Zb} {o m : Nat} {L : DV} {Yw : Int} {vs : List V} (hd : DictAt H o m L Yw vs) (hb : Yw ≤ 4096) (v : V) :
 ∃ L' H', E X 58 [.ref o 0, v.d] H = some (.tup [.int .i64 (eF Yw vs v).1, .int .i64 (eF Yw vs v).2.1], H') ∧ DictAt H' o m L' Yw (eF Yw vs v).2.2 ∧ H.length ≤ H'.length ∧
  (∀ i < H.length, i ≠ o → i ≠ m → rowOf L ≠ some i → H'[i]? = H[i]?) ∧ (rowOf L' = rowOf L ∨ ∃ r, rowOf L' = some r ∧ H.length ≤ r) := by
 unfold eF
 cases hm : aG v
 ·rw [if_neg (by simp)]
  exact ⟨L, H, HE hd v hm, hd, Nat.le_refl _, fun _ _ _ _ _ => rfl, .inl rfl⟩
 ·rw [if_pos rfl]
  cases hf : dR v vs 0 with
  | some j => exact ⟨L, H, HF hd v hm hf, hd, Nat.le_refl _, fun _ _ _ _ _ => rfl, .inl rfl⟩
  | none =>
   simp only
   by_cases hl : Yw ≤ vs.length
   ·rw [if_pos hl]
    exact ⟨L, H, CX hd v hm hf hl, hd, Nat.le_refl _, fun _ _ _ _ _ => rfl, .inl rfl⟩
   ·rw [if_neg hl]
    exact Em hd v hm hf (by omega) hb
theorem DictAt.keep {H H' : Zb} {o m : Nat} {L : DV} {Yw : Int} {vs : List V} (hd : DictAt H o m L Yw vs) (ho : H'[o]? = H[o]?) (hm : H'[m]? = H[m]?) (hL : ∀ r, rowOf L = some r → H'[r]? = H[r]?) : DictAt H' o m L Yw vs :=
 ⟨ho.trans hd.box, hm.trans hd.map, by
  rcases hd.row with h | ⟨r, g, h1, h2⟩
  ·exact .inl h
  ·exact .inr ⟨r, g, h1, (hL r (by rw [h1]; rfl)).trans h2⟩⟩
theorem eV.keep {n0 t sz : Nat} {H H' : Zb} {N : DV} {ns : List DV} (hg : eV n0 t sz H N ns) (hN : ∀ r, rowOf N = some r → H'[r]? = H[r]?) : eV n0 t sz H' N ns := by
 rcases hg with h | ⟨r, g, h1, h2, h3⟩
 ·exact .inl h
 ·exact .inr ⟨r, g, h1, h2, (hN r (by rw [h1]; rfl)).trans h3⟩
theorem uu : ∀ x y : List UInt8, Op.bytesLess x y = false → Op.bytesLess y x = false → x = y
 | [], [], _, _ => rfl
 | [], b :: y, h, _ => by simp [Op.bytesLess] at h
 | a :: x, [], _, h => by simp [Op.bytesLess] at h
 | a :: x, b :: y, h, h' => by
  simp only [Op.bytesLess, Bool.or_eq_false_iff, Bool.and_eq_false_iff, decide_eq_false_iff_not, beq_eq_false_iff_ne, ne_eq] at h h'
  have e : a = b := by
   have h1 := h.1; have h2 := h'.1
   rw [UInt8.lt_iff_toNat_lt] at h1 h2
   exact UInt8.toNat_inj.1 (by omega)
  subst e
  have h1 : Op.bytesLess x y = false := by rcases h.2 with h | h; exact absurd rfl h; exact h
  have h2 : Op.bytesLess y x = false := by rcases h'.2 with h | h; exact absurd rfl h; exact h
  rw [uu x y h1 h2]
theorem nM {s : ByteArray} (h : (s == ⟨#[]⟩) = true) : s = ⟨#[]⟩ := by
 have h' : (s.data == #[]) = true := h
 cases s
 simp at h' ⊢
 exact h'
theorem zI {a b : V} (ha : aG a = true) (hb : aG b = true) (h1 : ¬ ord a b < 0) (h2 : ¬ ord b a < 0) : a = b := by
 rw [nj] at h1 h2
 obtain ⟨k, n, s, t⟩ := a
 obtain ⟨k', n', s', t'⟩ := b
 simp only at h1 h2
 have hk : k = k' := by omega
 subst hk
 unfold aG at ha hb
 simp only at ha hb
 by_cases q1 : k = 1
 ·rw [if_pos q1] at ha hb
  simp only [Bool.and_eq_true, Bool.not_eq_true'] at ha hb
  rw [nM ha.1, nM hb.1, ha.2, hb.2]
  have : n = n' := by omega
  rw [this]
 rw [if_neg q1] at ha hb
 by_cases q2 : k = 2
 ·rw [if_pos q2] at ha hb
  simp only [Bool.and_eq_true, Bool.not_eq_true', beq_iff_eq] at ha hb
  have e1 : lD s s' = false := by
   cases h : lD s s'
   ·rfl
   ·exact absurd (.inr ⟨rfl, .inr (.inl ⟨q2, h⟩)⟩) h1
  have e2 : lD s' s = false := by
   cases h : lD s' s
   ·rfl
   ·exact absurd (.inr ⟨rfl, .inr (.inl ⟨q2, h⟩)⟩) h2
  unfold lD at e1 e2
  have e3 := uu _ _ e1 e2
  rw [ByteArray.toList_eq, ByteArray.toList_eq] at e3
  have e4 : s = s' := by
   cases s; cases s'
   simp at e3 ⊢
   exact e3
  rw [ha.1.1, hb.1.1, ha.1.2, hb.1.2, e4]
 rw [if_neg q2] at ha hb
 by_cases q3 : k = 3
 ·rw [if_pos q3] at ha hb
  simp only [Bool.and_eq_true, beq_iff_eq] at ha hb
  rw [ha.1, hb.1, nM ha.2, nM hb.2]
  cases t <;> cases t'
  ·rfl
  ·exact absurd (.inr ⟨rfl, .inr (.inr ⟨q3, rfl, rfl⟩)⟩) h1
  ·exact absurd (.inr ⟨rfl, .inr (.inr ⟨q3, rfl, rfl⟩)⟩) h2
  ·rfl
 rw [if_neg q3] at ha hb
 by_cases q4 : k = 0
 ·rw [if_pos q4] at ha hb
  simp only [Bool.and_eq_true, Bool.not_eq_true', beq_iff_eq] at ha hb
  rw [ha.1.1, hb.1.1, nM ha.1.2, nM hb.1.2, ha.2, hb.2]
 ·rw [if_neg q4] at ha
  cases ha
def Gd (vs : List V) : Prop := (∀ x ∈ vs, aG x = true) ∧ vs.Pairwise (· ≠ ·)
theorem FY : Gd [] := ⟨by simp, List.Pairwise.nil⟩
theorem kg {v : V} {l : List V} {i : Nat} (h : dR v l i = none) : v ∉ l := fun hm => by
 have := uM v l i h v hm
 rw [(V.eqb_iff v v).2 rfl] at this; cases this
theorem L9 (Yw : Int) {vs : List V} (v : V) (h : Gd vs) : Gd (eF Yw vs v).2.2 := by
 unfold eF
 cases hm : aG v
 ·exact h
 ·rw [if_pos rfl]
  cases hf : dR v vs 0 with
  | some j => exact h
  | none =>
   simp only
   split
   ·exact h
   ·refine ⟨fun x hx => ?_, ?_⟩
    ·rcases List.mem_append.1 hx with hx | hx
     ·exact h.1 x hx
     ·simp at hx; rw [hx]; exact hm
    ·rw [List.pairwise_append]
     refine ⟨h.2, List.pairwise_singleton _ _, fun a ha b hb => ?_⟩
     simp at hb
     subst hb
     rintro rfl
     exact kg hf ha
theorem JG (Yw : Int) (vs : List V) (v : V) : ∃ t, (eF Yw vs v).2.2 = vs ++ t := by
 unfold eF
 split
 ·split
  ·exact ⟨[], by simp⟩
  ·split
   ·exact ⟨[], by simp⟩
   ·exact ⟨[v], rfl⟩
 ·exact ⟨[], by simp⟩
theorem JF (Yw : Int) (vs : List V) (v : V) : (eF Yw vs v).2.2.length ≤ vs.length + 1 := by
 unfold eF
 split
 ·split
  ·simp
  ·split <;> simp
 ·simp
theorem L6 {Yw : Int} {vs : List V} {v : V} (h : (eF Yw vs v).2.1 = 0) : ∃ j : Nat, (eF Yw vs v).1 = (j : Int) ∧ (eF Yw vs v).2.2[j]? = some v := by
 unfold eF at h ⊢
 cases hm : aG v
 ·rw [hm] at h; simp at h
 ·rw [hm] at h
  rw [if_pos rfl] at h ⊢
  cases hf : dR v vs 0 with
  | some j =>
   obtain ⟨_, _, h3⟩ := qb v vs 0 j hf
   exact ⟨j, rfl, by simpa using h3⟩
  | none =>
   rw [hf] at h
   simp only at h ⊢
   by_cases hl : Yw ≤ vs.length
   ·rw [if_pos hl] at h; simp at h
   ·rw [if_neg hl]
    exact ⟨vs.length, rfl, by simp⟩
theorem Ld {vs : List V} (h : vs.Pairwise (· ≠ ·)) {i j : Nat} {v : V} (hi : vs[i]? = some v) (hj : vs[j]? = some v) : i = j := by
 obtain ⟨h1, e1⟩ := List.getElem?_eq_some_iff.1 hi
 obtain ⟨h2, e2⟩ := List.getElem?_eq_some_iff.1 hj
 rcases Nat.lt_trichotomy i j with hl | hl | hl
 ·exact absurd (e1.trans e2.symm) (List.pairwise_iff_getElem.1 h i j h1 h2 hl)
 ·exact hl
 ·exact absurd (e2.trans e1.symm) (List.pairwise_iff_getElem.1 h j i h2 h1 hl)
theorem Ph {vs : List V} (h : Gd vs) {j : Nat} {v : V} (hj : vs[j]? = some v) : dR v vs 0 = some j := by
 cases hf : dR v vs 0 with
 | none => exact absurd (List.mem_of_getElem? hj) (kg hf)
 | some i =>
  obtain ⟨_, _, h3⟩ := qb v vs 0 i hf
  rw [Nat.sub_zero] at h3
  rw [Ld h.2 h3 hj]
theorem BM {vs : List V} (h : Gd vs) : Up (Go.Sort.sort lt vs.toArray).toList := by
 have hs := (Go.Sort.sort_sorts lt Kj vs.toArray)
 have hp := oK vs
 have hz : (Go.Sort.sort lt vs.toArray).size = vs.length := by rw [hs.1.1]; simp
 have Kt : (Go.Sort.sort lt vs.toArray).toList.Pairwise (· ≠ ·) := (hp.pairwise_iff (fun h => Ne.symm h)).2 h.2
 have Si := hs.2
 rw [List.size_toArray] at Si
 rw [Up, List.pairwise_iff_getElem]
 intro i j hi hj hij
 have h1 := Si i j (Nat.zero_le _) hij (by simp at hj; omega)
 simp only [Array.length_toList] at hi hj
 rw [getElem!_pos _ i hi, getElem!_pos _ j hj] at h1
 have hne := List.pairwise_iff_getElem.1 Kt i j (by simpa using hi) (by simpa using hj) hij
 simp only [Array.getElem_toList] at hne ⊢
 refine Decidable.byContradiction fun hc => ?_
 have m1 : aG (Go.Sort.sort lt vs.toArray)[i] = true := h.1 _ (hp.mem_iff.1 (by simp))
 have m2 : aG (Go.Sort.sort lt vs.toArray)[j] = true := h.1 _ (hp.mem_iff.1 (by simp))
 exact hne (zI m1 m2 hc (dQ h1))
theorem Eb : ∀ (xs ys : List V), Up xs → Up ys → (∀ v, v ∈ xs ↔ v ∈ ys) → xs = ys
 | [], [], _, _, _ => rfl
 | [], b :: ys, _, _, h => by have := (h b).2 (by simp); simp at this
 | a :: xs, [], _, _, h => by have := (h a).1 (by simp); simp at this
 | a :: xs, b :: ys, hx, hy, h => by
  have px := List.pairwise_cons.1 hx
  have py := List.pairwise_cons.1 hy
  have hab : a = b := by
   rcases List.mem_cons.1 ((h a).1 (by simp)) with e | e
   ·exact e
   ·rcases List.mem_cons.1 ((h b).2 (by simp)) with e' | e'
    ·exact e'.symm
    ·exact absurd (oS _ _ _ (px.1 b e') (py.1 a e)) (gB a)
  subst hab
  rw [Eb xs ys px.2 py.2 (fun v => ⟨fun hv => ?_, fun hv => ?_⟩)]
  ·rcases List.mem_cons.1 ((h v).1 (by simp [hv])) with e | e
   ·subst e; exact absurd (px.1 v hv) (gB v)
   ·exact e
  ·rcases List.mem_cons.1 ((h v).2 (by simp [hv])) with e | e
   ·subst e; exact absurd (py.1 v hv) (gB v)
   ·exact e
theorem eG {ys : List V} (h : Up ys) {v : V} (hm : v ∈ ys) : ys[place ys v]? = some v ∧ found ys v = true := by
 have hf := F3 h v
 have hs : (dR v ys 0).isSome = true := by
  cases hq : dR v ys 0 with
  | none => exact absurd hm (kg hq)
  | some j => rfl
 rw [hs] at hf
 refine ⟨?_, hf⟩
 unfold found at hf
 cases hx : ys[place ys v]? with
 | none => rw [hx] at hf; simp at hf
 | some x => rw [hx] at hf; simp at hf; rw [(V.eqb_iff _ _).1 hf]
theorem yT : ∀ (l : List V) (p : Option V), Up (p.toList ++ l) → (∀ x ∈ l, aG x = true) → dY p l = true
 | [], p, _, _ => by cases p <;> rfl
 | a :: l, none, h, hm => by
  simp only [dY, Bool.and_eq_true]
  exact ⟨hm a (by simp), yT l (some a) h (fun x hx => hm x (by simp [hx]))⟩
 | a :: l, some p, h, hm => by
  simp only [dY, Bool.and_eq_true, decide_eq_true_eq]
  have h' := List.pairwise_cons.1 h
  exact ⟨hm a (by simp), h'.1 a (by simp), yT l (some a) h'.2 (fun x hx => hm x (by simp [hx]))⟩
theorem Ll {H : Zb} {A : DV} {xs : List V} {v : V} {q t : Nat} (hA : vw H 4 A = some (xs.map V.d)) (hq : H[q]? = some (.box t v.d.cells)) (hb : xs.length ≤ 1000000) (pU : ∀ x ∈ xs, Sm x) (hv : Sm v) : ∀ (k i n : Nat), xs.length - i ≤ k → i ≤ xs.length → n ≤ i →
 ∃ e', C X (.loop nV) [(0, A), (3, .ref q 0), (5, .int .i64 n), (6, .int .i64 i)] H = some (.exit 0, e', H) ∧ lk e' 5 = .int .i64 ((n + (xs.drop i).countP fun x => decide (ord x v < 0) : Nat)) := by
 have Fe : H[q]? = some (.box t [.int .i64 v.k, .int .i64 v.n, .str v.s, .bool v.t]) := hq
 intro k
 induction k with
 | zero =>
  intro i n hk hi hn
  obtain rfl : i = xs.length := by omega
  rw [Zc]
  unfold nV
  refine rn @hA ?_
  rw [Zw]
  exact ⟨_, rfl, by simp [Za, lk]⟩
 | succ k ih =>
  intro i n hk hi hn
  by_cases w0 : i < xs.length
  ·obtain ⟨I, hI⟩ : ∃ I, I = i + 1 := ⟨_, rfl⟩
   obtain ⟨N, hN⟩ : ∃ N, N = n + 1 := ⟨_, rfl⟩
   have w1 : IntKind.i64.wrap ((i : Int) + 1) = (I : Int) := wr
   have w2 : IntKind.i64.wrap ((n : Int) + 1) = (N : Int) := wr
   have d1 : xs.drop i = xs[i] :: xs.drop (i + 1) := List.drop_eq_getElem_cons w0
   have e1 := J8 xs[i] v (pU _ (List.getElem_mem _)) hv
   by_cases ho : ord xs[i] v < 0
   ·have hs : C X nV [(0, A), (3, .ref q 0), (5, .int .i64 n), (6, .int .i64 i)] H = some (.norm, [(0, A), (3, .ref q 0), (5, .int .i64 N), (6, .int .i64 I)], H) := by
     unfold nV
     refine ah (fV @hA @w0 @w1 @w2 @Fe @e1 @ho) ?_
     simp [Za, lk]
    rw [Zc, hs, ZB]
    obtain ⟨e', h1, h2⟩ := ih I N (by omega) (by omega) (by omega)
    refine ⟨e', h1, h2.trans ?_⟩
    rw [d1, hI, List.countP_cons_of_pos (by simpa using ho), hN]
    simp; omega
   ·have hs : C X nV [(0, A), (3, .ref q 0), (5, .int .i64 n), (6, .int .i64 i)] H = some (.norm, [(0, A), (3, .ref q 0), (5, .int .i64 n), (6, .int .i64 I)], H) := by
     unfold nV
     refine ah (fV @hA @w0 @w1 @w2 @Fe @e1 @ho) ?_
     simp [Za, lk]
    rw [Zc, hs, ZB]
    obtain ⟨e', h1, h2⟩ := ih I n (by omega) (by omega) (by omega)
    refine ⟨e', h1, h2.trans ?_⟩
    rw [d1, hI, List.countP_cons_of_neg (by simpa using ho)]
  ·exact ih i n (by omega) hi hn
theorem Mr {h : Zb} {A : DV} {xs : List V} (v : V) (hA : ∀ l, vw (h ++ l) 4 A = some (xs.map V.d)) (hb : xs.length ≤ 1000000) (pU : ∀ x ∈ xs, Sm x) (hv : Sm v) : E X 95 [A, v.d] h = some (.int .i64 ((xs.countP fun x => decide (ord x v < 0) : Nat)), h) := by
 obtain ⟨e', h2, h3⟩ := Ll (H := h ++ [HO.box 56 [.int .i64 v.k, .int .i64 v.n, .str v.s, .bool v.t]]) (A := A) (xs := xs) (v := v) (q := h.length) (t := 56) (hA _) (by simp [DV.cells]) hb pU hv xs.length 0 0 (by omega) (by omega) (by omega)
 rw [List.drop_zero, Nat.zero_add] at h3
 rw [show ((0 : Nat) : Int) = 0 from rfl] at h2
 rw [Zz (X := X) _ PZ _ rfl rfl]; unfold PZ
 refine rn trivial ?_
 refine aj ?_
 rw [h2]
 refine rn @h3 ?_
 exact re trivial
theorem Lu {h : Zb} {A B : DV} {xs : List V} (hA : vw h 4 A = some (xs.map V.d)) (hB : vw h 4 B = some (xs.map V.d)) (hb : xs.length ≤ 1000000) :
 ∀ (k i : Nat), xs.length - i ≤ k → i ≤ xs.length → ∃ e', C X (.loop rW) [(0, A), (1, B), (5, .int .i64 i)] h = some (.exit 0, e', h) := by
 intro k
 induction k with
 | zero =>
  intro i hk hi
  obtain rfl : i = xs.length := by omega
  rw [Zc]
  unfold rW
  refine rn @hA ?_
  rw [Zw]
  exact ⟨_, rfl⟩
 | succ k ih =>
  intro i hk hi
  by_cases w0 : i < xs.length
  ·obtain ⟨I, hI⟩ : ∃ I, I = i + 1 := ⟨_, rfl⟩
   have w1 : IntKind.i64.wrap ((i : Int) + 1) = (I : Int) := wr
   have hs : C X rW [(0, A), (1, B), (5, .int .i64 i)] h = some (.norm, [(0, A), (1, B), (5, .int .i64 I)], h) := by
    unfold rW
    refine ah (ej @hA @hB @w0 @w1 @jV) ?_
    simp [Za, lk]
   rw [Zc, hs, ZB]
   exact ih I (by omega) (by omega)
  ·exact ih i (by omega) hi
theorem MC {h : Zb} {A B : DV} {xs : List V} (hA : vw h 4 A = some (xs.map V.d)) (hB : vw h 4 B = some (xs.map V.d)) (hb : xs.length ≤ 1000000) : E X 20 [A, B] h = some (.bool true, h) := by
 obtain ⟨e', c1⟩ := Lu hA hB hb xs.length 0 (by omega) (by omega)
 have cO : ((xs.length : Int) != xs.length) = false := by simp
 rw [show ((0 : Nat) : Int) = 0 from rfl] at c1
 rw [Zz (X := X) _ Qm _ rfl rfl]; unfold Qm
 refine rn (cH @hA @hB @cO) ?_
 refine aj ?_
 rw [c1]
 refine rn trivial ?_
 exact re trivial
def Qw (R : DV) (rs : List V) : Prop := R = .list 4 (rs.map V.d) false ∨ (R = .nils ∧ rs = [])
theorem Qw.vw {R : DV} {rs : List V} (h : Qw R rs) (g : Zb) : vw g 4 R = some (rs.map V.d) := by
 rcases h with rfl | ⟨rfl, rfl⟩ <;> rfl
def hq (H : Zb) (os : List V) (ts : List Int) : Zb := H ++ [.row 56 4 0 (os.map V.d), .row 3 1 0 (ts.map (.int .i64))]
section
variable {H : Zb} {os : List V} {ts : List Int} {n : Nat}
theorem Oo (ho : os.length = n) : vw (hq H os ts) 4 (.row H.length 0 0 n false) = some (os.map V.d) := by
 subst ho; simp [vw, hq, ZO, List.take_of_length_le]
theorem zZ (ht : ts.length = n) : vw (hq H os ts) 1 (.row (H.length + 1) 0 0 n false) = some (ts.map (.int .i64)) := by
 subst ht; simp [vw, hq, ae, List.take_of_length_le]
theorem Ol (ho : os.length = n) {i : Nat} (hi : i < n) (v : V) : stx (hq H os ts) 4 (.elem (.row H.length 0 0 n false) 4 i 0) (.agg [.int .i64 v.k, .int .i64 v.n, .str v.s, .bool v.t]) = some (hq H (os.set i v) ts) := by
 subst ho
 have h1 : (hq H os ts)[H.length]? = some (.row 56 4 0 (os.map V.d)) := by simp [hq, ZO]
 have h2 : (os.map V.d)[i]? = some (os[i]).d := by simp [List.getElem?_eq_getElem hi]
 rw [stx, if_pos (by simp [DV.cells, DV.one])]
 simp only [h1]
 rw [if_pos (by simp [hi])]
 simp only [Nat.zero_add, h2]
 simp [oA, DV.cells, splice, hq, ZP]
theorem Om (ht : ts.length = n) {i : Nat} (hi : i < n) (x : Int) : stx (hq H os ts) 1 (.elem (.row (H.length + 1) 0 0 n false) 1 i 0) (.int .i64 x) = some (hq H os (ts.set i x)) := by
 subst ht
 have h1 : (hq H os ts)[H.length + 1]? = some (.row 3 1 0 (ts.map (.int .i64))) := by simp [hq, ae]
 have h2 : (ts.map (DV.int .i64))[i]? = some (.int .i64 ts[i]) := by simp [List.getElem?_eq_getElem hi]
 rw [stx, if_pos (by simp [DV.cells, DV.one])]
 simp only [h1]
 rw [if_pos (by simp [hi])]
 simp only [Nat.zero_add, h2]
 simp [oA, DV.one, hq, Yb]
theorem Ot (ht : ts.length = n) {i : Nat} (hi : i < n) (x : Int) : aH (hq H os (ts.set i x)) false 1 (.elem (.row (H.length + 1) 0 0 n false) 1 i 0) = some (.int .i64 x) := by
 rw [aH, zZ (by simpa using ht)]
 have : ((ts.set i x).map (DV.int .i64))[i]? = some (.int .i64 x) := by
  rw [List.getElem?_map, List.getElem?_set_self (by omega)]; rfl
 simp only [this]
 rfl
end
theorem Pm {H : Zb} {os : List V} {ts : List Int} {n : Nat} (ho : os.length = n) (ht : ts.length = n) : fin H (hq H os ts) [.row H.length 0 0 n false, .row (H.length + 1) 0 0 n false] = (.tup [.list 4 (os.map V.d) false, .list 1 (ts.map (.int .i64)) false], H) := by
 subst ho
 have h1 : (hq H os ts).take H.length = H := List.take_left
 have g1 : (hq H os ts)[H.length]? = some (.row 56 4 0 (os.map V.d)) := by simp [hq, ZO]
 have g2 : ((hq H os ts).set H.length (.frz 56 4 0 (os.map V.d)))[H.length + 1]? = some (.row 3 1 0 (ts.map (.int .i64))) := by
  rw [List.getElem?_set_ne (by omega)]; simp [hq, ae]
 have q0 := Bn os
 have q1 : ∀ x ∈ ts.map (DV.int .i64), Nr x := by intro x hx; obtain ⟨y, _, rfl⟩ := List.mem_map.1 hx; exact .int _ _
 have f1 : aJ H.length (hq H os ts) false (.row H.length 0 0 os.length false) = some (.list 4 (os.map V.d) false, (hq H os ts).set H.length (.frz 56 4 0 (os.map V.d))) := by
  rw [aJ]
  ·rw [aO, if_neg (by omega), g1]
   simp only
   rw [if_pos ⟨rfl, by simp, q0⟩, if_neg (by simp)]
   simp [List.take_of_length_le]
  ·intro cs h; cases h
 have f2 : aJ H.length ((hq H os ts).set H.length (.frz 56 4 0 (os.map V.d))) false (.row (H.length + 1) 0 0 os.length false) = some (.list 1 (ts.map (.int .i64)) false, ((hq H os ts).set H.length (.frz 56 4 0 (os.map V.d))).set (H.length + 1) (.frz 3 1 0 (ts.map (.int .i64)))) := by
  rw [aJ]
  ·rw [aO, if_neg (by omega), g2]
   simp only
   rw [if_pos ⟨rfl, by simp [ht], q1⟩, if_neg (by simp)]
   simp [← ht, List.take_of_length_le]
  ·intro cs h; cases h
 rw [fin]
 ·rw [if_pos h1]
  simp only [bq, f1, f2]
 ·intro d h; cases h
theorem yU {ys : List V} (hu : Up ys) {p : Nat} {x : V} (hx : ys[p]? = some x) : place ys x = p := by
 have h1 := (eG hu (List.mem_of_getElem? hx)).1
 rcases Nat.lt_trichotomy (place ys x) p with h | h | h
 ·exact absurd (yN hu h h1 hx) (gB x)
 ·exact h
 ·exact absurd (yN hu h hx h1) (gB x)
end Go.Proofs.YtmbgfbomgbdjeaaGreatDoor
