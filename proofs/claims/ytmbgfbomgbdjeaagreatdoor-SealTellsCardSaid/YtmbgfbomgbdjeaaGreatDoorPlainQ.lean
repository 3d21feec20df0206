/- Ideal runs. -/
import Derived.Test.YtmbgfbomgbdjeaaGreatDoorStep
import Derived.Test.YtmbgfbomgbdjeaaGreatDoorPlainM
import Derived.Test.YtmbgfbomgbdjeaaGreatDoorSortB
namespace Go.Proofs.YtmbgfbomgbdjeaaGreatDoor
attribute [local go_sem] ZK ZF ZE ZG Zs Zi Zp Zl Zn Ze Zf Zm Zt Zu ZH Zr Zj ZD Zz Zy ZW ZA Yo put lk Od.v Za Zg Zo aj Yd Ye Yc au eqk DV.isU DV.cells ae ZP Ya ZO Zq splice ZQ af ZX eqs bh bV bQ aV bS bg aU aZ bR aW bU aY bf aX bW bY bP YA YB
attribute [local go_sem ↓] Zk
set_option linter.unusedVariables false
set_option linter.unusedSimpArgs false
set_option maxRecDepth 10000
theorem JN : Go.Sort.SWO lt where
 irrefl x := by have := iI x; simp [lt]; omega
 trans x y z h1 h2 := by
  have := oV x y z (dN h1) (dN h2)
  simp [lt, this]
 ntrans x y z h1 h2 := by
  cases h : lt x z
  ·rfl
  ·rcases El x y z (dN h) with h3 | h3
   ·exact absurd h3 (dO h1)
   ·exact absurd h3 (dO h2)
theorem MA {n r g : Nat} (hn : n < 256) (H : Zb) (d : Array V) (hr : r < H.length) (hd : d.size = n) : ∃ l, E X 122 [Ym r g n, .int .i64 0, .int .i64 n, .int .i64 (Go.Sort.bitsLen n : Nat), .func 68 [] []] (hp H r g d) = some (.tup [], hp (H ++ l) r g (Go.Sort.sort lt d)) := by
 have h8 := qN n hn
 have h := KS (r := r) (g := g) hn n 0 n (Go.Sort.bitsLen n) true true d H (by omega) (by omega) (Nat.le_refl _) hd (by omega) hr
 obtain ⟨l, h2⟩ := Cy hr h.1
 refine ⟨l, ?_⟩
 rw [Go.Sort.sort, hd]
 exact h2
theorem Me {n : Nat} (hn : n < 256) {H : Zb} {r g : Nat} (hr : r < H.length) (d : Array V) (hd : d.size = n) :
 ∃ l, E X 88 [Ym r g n, .func 68 [] []] (hp H r g d) = some (.tup [], hp (H ++ l) r g (Go.Sort.sort lt d)) := by
 obtain ⟨l, e⟩ := MA (g := g) hn H d hr hd
 have e2 := Jz n hn
 have r0 := vg (H := H) g d hr
 rw [hd] at r0
 have w : IntKind.u64.wrap (n : Int) = n := by simp [IntKind.wrap, IntKind.bits, IntKind.signed]; omega
 obtain ⟨l', h2⟩ := Ae (g := g) hr d (Go.Sort.sort lt d) l
 refine ⟨l', ?_⟩
 rw [Zv (X := X) _ PG _ rfl rfl]; unfold PG
 refine rn (eP @e @e2 @r0 @hd @w) ?_
 simp only [ZS, ZV, Option.map_some]
 rw [h2]
theorem rC (vs : List V) : (Go.Sort.sort lt vs.toArray).toList.Perm vs := by
 have h := (Go.Sort.sort_sorts lt JN vs.toArray).1
 have h3 := h.2.2
 rw [List.size_toArray] at h3 h
 have e1 : (Go.Sort.sort lt vs.toArray).extract 0 vs.length = Go.Sort.sort lt vs.toArray := by
  have hs : (Go.Sort.sort lt vs.toArray).size = vs.length := by rw [h.1]; simp
  rw [← hs]; exact Array.extract_size
 have e2 : vs.toArray.extract 0 vs.length = vs.toArray := by
  have : vs.toArray.size = vs.length := by simp
  rw [← this]; exact Array.extract_size
 rw [e1, e2] at h3
 simpa using h3
theorem Mg {H : Zb} {o m : Nat} {L : DV} {Yz : Int} {vs : List V} (hd : DictAt H o m L Yz vs) (hv : vs ≠ []) (hn : vs.length < 256) {ys : List V} (hys : ys = (Go.Sort.sort lt vs.toArray).toList) :
 E X 59 [.ref o 0] H = some (.tup [.list 4 (ys.map V.d) false, .list 1 (toS ys vs) false], H) := by
 have tP : ys.length = vs.length := by rw [hys]; exact (rC vs).length_eq
 have Tz : Go.Sort.sort lt vs.toArray = ys.toArray := by rw [hys]
 have e1 := Jy hd
 have e2 := hd.box
 have SS := hle hd.box
 have e3 := hd.len
 have SL := hd.len0
 have hpos : vs.length ≠ 0 := by simpa using hv
 have hb0 : ((vs.length : Int) == 0) = false := by simpa using hv
 obtain ⟨r, g, rfl, hrow⟩ : ∃ r g, L = .row r g 0 vs.length false ∧ H[r]? = some (.row 56 4 g (vs.map V.d)) := by
  rcases hd.row with ⟨h, _⟩ | h
  ·exact absurd h hv
  ·exact h
 have e4 := Ql hv SL (by omega)
 obtain ⟨l0, e5⟩ : ∃ l0, E X 88 [.row H.length 0 0 vs.length false, .func 68 [] []] (H ++ [HO.row 56 4 0 (vs.map V.d)]) = some (.tup [], H ++ [HO.row 56 4 0 (ys.map V.d)] ++ l0) := by
  obtain ⟨l0, h⟩ := Me hn (H := H ++ [HO.row 56 4 0 (vs.map V.d)]) (r := H.length) (g := 0) (by simp) vs.toArray (by simp)
  rw [← LV (g := 0) vs.toArray _ (by simp), Tz] at h
  refine ⟨l0, ?_⟩
  rw [h]
  simp [hp, ZO]
 have hL : ∀ l, vw ((H ++ [HO.row 56 4 0 (ys.map V.d)]) ++ l) 4 (.row r g 0 vs.length false) = some (vs.map V.d) := fun l => by rw [List.append_assoc]; exact e3 _
 have hY : ∀ l, vw ((H ++ [HO.row 56 4 0 (ys.map V.d)]) ++ l) 4 (.row H.length 0 0 vs.length false) = some (ys.map V.d) := fun l => by
  simp [vw, ← tP, List.take_of_length_le]
 obtain ⟨e', T', l', c1, c2, c3, c4⟩ := Na hL hY (by omega) (by omega) vs.length 0 .nils l0 (by omega) (by omega) (.inl ⟨by simp [toS], rfl⟩)
 have c5 := C7 tP.symm (by simpa using c4) (by simpa [toS] using hv) (by intro x hx; obtain ⟨v, _, rfl⟩ := List.mem_map.1 hx; exact .int _ _)
 have Fj := hL l0
 rw [show ((0 : Nat) : Int) = 0 from rfl] at c1
 have Pf : (H ++ [HO.row 56 4 0 (ys.map V.d)] ++ l0)[o]? = some (.box 117 [.int .i64 Yz, .row r g 0 vs.length false, .map m]) := by rw [List.append_assoc]; exact SS _
 generalize hG : H ++ [HO.row 56 4 0 (ys.map V.d)] ++ l0 = G at e5 c1 Fj Pf
 rw [Zv (X := X) _ Gc _ rfl rfl]; unfold Gc
 refine rn (gJ @e1 @e2 @SS @Pf @SL @hb0 @e4 @e5 @Fj) ?_
 refine Yy ?_
 rw [c1]
 refine rn (aD @c2 @c3) ?_
 simp only [Zh, ZV, Za, List.map_cons, List.map_nil, lk, reduceIte, Nat.reduceEqDiff, Option.map_some]
 simp only [List.append_assoc, List.cons_append, List.nil_append] at c5 ⊢
 rw [c5]
theorem Mh {H : Zb} {o m : Nat} {L : DV} {Yz : Int} (hd : DictAt H o m L Yz []) : E X 59 [.ref o 0] H = some (.tup [.nils, .nils], H) := by
 have e1 := Jy hd
 simp at e1
 rw [Zv (X := X) _ Gc _ rfl rfl]; unfold Gc; exact rg @e1
def eE (Yz : Int) (vs : List V) (v : V) : Int × Int × List V :=
 if aF v = true then
  match gH v vs 0 with
  | some j => (j, 0, vs)
  | none => if Yz ≤ vs.length then (0, 4, vs) else (vs.length, 0, vs ++ [v])
 else (0, 1, vs)
theorem DW {H : Zb} {o m : Nat} {L : DV} {Yz : Int} {vs : List V} (hd : DictAt H o m L Yz vs) (hb : Yz ≤ 4096) (v : V) :
 ∃ L' H', E X 58 [.ref o 0, v.d] H = some (.tup [.int .i64 (eE Yz vs v).1, .int .i64 (eE Yz vs v).2.1], H') ∧ DictAt H' o m L' Yz (eE Yz vs v).2.2 ∧ H.length ≤ H'.length ∧
  (∀ i < H.length, i ≠ o → i ≠ m → rowOf L ≠ some i → H'[i]? = H[i]?) ∧ (rowOf L' = rowOf L ∨ ∃ r, rowOf L' = some r ∧ H.length ≤ r) := by
 unfold eE
 cases hm : aF v
 ·rw [if_neg (by simp)]
  exact ⟨L, H, GM hd v hm, hd, Nat.le_refl _, fun _ _ _ _ _ => rfl, .inl rfl⟩
 ·rw [if_pos rfl]
  cases hf : gH v vs 0 with
  | some j => exact ⟨L, H, GN hd v hm hf, hd, Nat.le_refl _, fun _ _ _ _ _ => rfl, .inl rfl⟩
  | none =>
   simp only
   by_cases hl : Yz ≤ vs.length
   ·rw [if_pos hl]
    exact ⟨L, H, Ck hd v hm hf hl, hd, Nat.le_refl _, fun _ _ _ _ _ => rfl, .inl rfl⟩
   ·rw [if_neg hl]
    exact DX hd v hm hf (by omega) hb
theorem DictAt.keep {H H' : Zb} {o m : Nat} {L : DV} {Yz : Int} {vs : List V} (hd : DictAt H o m L Yz vs) (ho : H'[o]? = H[o]?) (hm : H'[m]? = H[m]?) (hL : ∀ r, rowOf L = some r → H'[r]? = H[r]?) : DictAt H' o m L Yz vs :=
 ⟨ho.trans hd.box, hm.trans hd.map, by
  rcases hd.row with h | ⟨r, g, h1, h2⟩
  ·exact .inl h
  ·exact .inr ⟨r, g, h1, (hL r (by rw [h1]; rfl)).trans h2⟩⟩
theorem eS.keep {n0 t sz : Nat} {H H' : Zb} {N : DV} {ns : List DV} (hg : eS n0 t sz H N ns) (hN : ∀ r, rowOf N = some r → H'[r]? = H[r]?) : eS n0 t sz H' N ns := by
 rcases hg with h | ⟨r, g, h1, h2, h3⟩
 ·exact .inl h
 ·exact .inr ⟨r, g, h1, h2, (hN r (by rw [h1]; rfl)).trans h3⟩
theorem uf : ∀ x y : List UInt8, Op.bytesLess x y = false → Op.bytesLess y x = false → x = y
 | [], [], _, _ => rfl
 | [], b :: y, h, _ => by simp [Op.bytesLess] at h
 | a :: x, [], _, h => by simp [Op.bytesLess] at h
 | a :: x, b :: y, h, h' => by
  simp only [Op.bytesLess, Bool.or_eq_false_iff, Bool.and_eq_false_iff, decide_eq_false_iff_not, beq_eq_false_iff_ne, ne_eq] at h h'
  have e : a = b := by
   have h1 := h.1; have h2 := h'.1
   rw [UInt8.lt_iff_toNat_lt] at h1 h2
   exact UInt8.toNat_inj.1 (by omega)
  subst e
  have h1 : Op.bytesLess x y = false := by rcases h.2 with h | h; exact absurd rfl h; exact h
  have h2 : Op.bytesLess y x = false := by rcases h'.2 with h | h; exact absurd rfl h; exact h
  rw [uf x y h1 h2]
theorem nN {s : ByteArray} (h : (s == ⟨#[]⟩) = true) : s = ⟨#[]⟩ := by
 have h' : (s.data == #[]) = true := h
 cases s
 simp at h' ⊢
 exact h'
theorem zA {a b : V} (ha : aF a = true) (hb : aF b = true) (h1 : ¬ ord a b < 0) (h2 : ¬ ord b a < 0) : a = b := by
 rw [nu] at h1 h2
 obtain ⟨k, n, s, t⟩ := a
 obtain ⟨k', n', s', t'⟩ := b
 simp only at h1 h2
 have hk : k = k' := by omega
 subst hk
 unfold aF at ha hb
 simp only at ha hb
 by_cases q1 : k = 1
 ·rw [if_pos q1] at ha hb
  simp only [Bool.and_eq_true, Bool.not_eq_true'] at ha hb
  rw [nN ha.1, nN hb.1, ha.2, hb.2]
  have : n = n' := by omega
  rw [this]
 rw [if_neg q1] at ha hb
 by_cases q2 : k = 2
 ·rw [if_pos q2] at ha hb
  simp only [Bool.and_eq_true, Bool.not_eq_true', beq_iff_eq] at ha hb
  have e1 : lH s s' = false := by
   cases h : lH s s'
   ·rfl
   ·exact absurd (.inr ⟨rfl, .inr (.inl ⟨q2, h⟩)⟩) h1
  have e2 : lH s' s = false := by
   cases h : lH s' s
   ·rfl
   ·exact absurd (.inr ⟨rfl, .inr (.inl ⟨q2, h⟩)⟩) h2
  unfold lH at e1 e2
  have e3 := uf _ _ e1 e2
  rw [ByteArray.toList_eq, ByteArray.toList_eq] at e3
  have e4 : s = s' := by
   cases s; cases s'
   simp at e3 ⊢
   exact e3
  rw [ha.1.1, hb.1.1, ha.1.2, hb.1.2, e4]
 rw [if_neg q2] at ha hb
 by_cases q3 : k = 3
 ·rw [if_pos q3] at ha hb
  simp only [Bool.and_eq_true, beq_iff_eq] at ha hb
  rw [ha.1, hb.1, nN ha.2, nN hb.2]
  cases t <;> cases t'
  ·rfl
  ·exact absurd (.inr ⟨rfl, .inr (.inr ⟨q3, rfl, rfl⟩)⟩) h1
  ·exact absurd (.inr ⟨rfl, .inr (.inr ⟨q3, rfl, rfl⟩)⟩) h2
  ·rfl
 rw [if_neg q3] at ha hb
 by_cases q4 : k = 0
 ·rw [if_pos q4] at ha hb
  simp only [Bool.and_eq_true, Bool.not_eq_true', beq_iff_eq] at ha hb
  rw [ha.1.1, hb.1.1, nN ha.1.2, nN hb.1.2, ha.2, hb.2]
 ·rw [if_neg q4] at ha
  cases ha
def Gd (vs : List V) : Prop := (∀ x ∈ vs, aF x = true) ∧ vs.Pairwise (· ≠ ·)
theorem OU : Gd [] := ⟨by simp, List.Pairwise.nil⟩
theorem sF {v : V} {l : List V} {i : Nat} (h : gH v l i = none) : v ∉ l := fun hm => by
 have := ux v l i h v hm
 rw [(V.eqb_iff v v).2 rfl] at this; cases this
theorem LI (Yz : Int) {vs : List V} (v : V) (h : Gd vs) : Gd (eE Yz vs v).2.2 := by
 unfold eE
 cases hm : aF v
 ·exact h
 ·rw [if_pos rfl]
  cases hf : gH v vs 0 with
  | some j => exact h
  | none =>
   simp only
   split
   ·exact h
   ·refine ⟨fun x hx => ?_, ?_⟩
    ·rcases List.mem_append.1 hx with hx | hx
     ·exact h.1 x hx
     ·simp at hx; rw [hx]; exact hm
    ·rw [List.pairwise_append]
     refine ⟨h.2, List.pairwise_singleton _ _, fun a ha b hb => ?_⟩
     simp at hb
     subst hb
     rintro rfl
     exact sF hf ha
theorem Jb (Yz : Int) (vs : List V) (v : V) : ∃ t, (eE Yz vs v).2.2 = vs ++ t := by
 unfold eE
 split
 ·split
  ·exact ⟨[], by simp⟩
  ·split
   ·exact ⟨[], by simp⟩
   ·exact ⟨[v], rfl⟩
 ·exact ⟨[], by simp⟩
theorem Ja (Yz : Int) (vs : List V) (v : V) : (eE Yz vs v).2.2.length ≤ vs.length + 1 := by
 unfold eE
 split
 ·split
  ·simp
  ·split <;> simp
 ·simp
theorem LH {Yz : Int} {vs : List V} {v : V} (h : (eE Yz vs v).2.1 = 0) : ∃ j : Nat, (eE Yz vs v).1 = (j : Int) ∧ (eE Yz vs v).2.2[j]? = some v := by
 unfold eE at h ⊢
 cases hm : aF v
 ·rw [hm] at h; simp at h
 ·rw [hm] at h
  rw [if_pos rfl] at h ⊢
  cases hf : gH v vs 0 with
  | some j =>
   obtain ⟨_, _, h3⟩ := vF v vs 0 j hf
   exact ⟨j, rfl, by simpa using h3⟩
  | none =>
   rw [hf] at h
   simp only at h ⊢
   by_cases hl : Yz ≤ vs.length
   ·rw [if_pos hl] at h; simp at h
   ·rw [if_neg hl]
    exact ⟨vs.length, rfl, by simp⟩
theorem KF {vs : List V} (h : Gd vs) : Up (Go.Sort.sort lt vs.toArray).toList := by
 have hs := (Go.Sort.sort_sorts lt JN vs.toArray)
 have hp := rC vs
 have hz : (Go.Sort.sort lt vs.toArray).size = vs.length := by rw [hs.1.1]; simp
 have BF : (Go.Sort.sort lt vs.toArray).toList.Pairwise (· ≠ ·) := (hp.pairwise_iff (fun h => Ne.symm h)).2 h.2
 have RJ := hs.2
 rw [List.size_toArray] at RJ
 rw [Up, List.pairwise_iff_getElem]
 intro i j hi hj hij
 have h1 := RJ i j (Nat.zero_le _) hij (by simp at hj; omega)
 simp only [Array.length_toList] at hi hj
 rw [getElem!_pos _ i hi, getElem!_pos _ j hj] at h1
 have hne := List.pairwise_iff_getElem.1 BF i j (by simpa using hi) (by simpa using hj) hij
 simp only [Array.getElem_toList] at hne ⊢
 refine Decidable.byContradiction fun hc => ?_
 have m1 : aF (Go.Sort.sort lt vs.toArray)[i] = true := h.1 _ (hp.mem_iff.1 (by simp))
 have m2 : aF (Go.Sort.sort lt vs.toArray)[j] = true := h.1 _ (hp.mem_iff.1 (by simp))
 exact hne (zA m1 m2 hc (dO h1))
theorem DC : ∀ (xs ys : List V), Up xs → Up ys → (∀ v, v ∈ xs ↔ v ∈ ys) → xs = ys
 | [], [], _, _, _ => rfl
 | [], b :: ys, _, _, h => by have := (h b).2 (by simp); simp at this
 | a :: xs, [], _, _, h => by have := (h a).1 (by simp); simp at this
 | a :: xs, b :: ys, hx, hy, h => by
  have px := List.pairwise_cons.1 hx
  have py := List.pairwise_cons.1 hy
  have hab : a = b := by
   rcases List.mem_cons.1 ((h a).1 (by simp)) with e | e
   ·exact e
   ·rcases List.mem_cons.1 ((h b).2 (by simp)) with e' | e'
    ·exact e'.symm
    ·exact absurd (oV _ _ _ (px.1 b e') (py.1 a e)) (iI a)
  subst hab
  rw [DC xs ys px.2 py.2 (fun v => ⟨fun hv => ?_, fun hv => ?_⟩)]
  ·rcases List.mem_cons.1 ((h v).1 (by simp [hv])) with e | e
   ·subst e; exact absurd (px.1 v hv) (iI v)
   ·exact e
  ·rcases List.mem_cons.1 ((h v).2 (by simp [hv])) with e | e
   ·subst e; exact absurd (py.1 v hv) (iI v)
   ·exact e
theorem lh {ys : List V} (h : Up ys) {v : V} (hm : v ∈ ys) : ys[place ys v]? = some v ∧ found ys v = true := by
 have hf := FG h v
 have hs : (gH v ys 0).isSome = true := by
  cases hq : gH v ys 0 with
  | none => exact absurd hm (sF hq)
  | some j => rfl
 rw [hs] at hf
 refine ⟨?_, hf⟩
 unfold found at hf
 cases hx : ys[place ys v]? with
 | none => rw [hx] at hf; simp at hf
 | some x => rw [hx] at hf; simp at hf; rw [(V.eqb_iff _ _).1 hf]
theorem yP : ∀ (l : List V) (p : Option V), Up (p.toList ++ l) → (∀ x ∈ l, aF x = true) → bG p l = true
 | [], p, _, _ => by cases p <;> rfl
 | a :: l, none, h, hm => by
  simp only [bG, Bool.and_eq_true]
  exact ⟨hm a (by simp), yP l (some a) h (fun x hx => hm x (by simp [hx]))⟩
 | a :: l, some p, h, hm => by
  simp only [bG, Bool.and_eq_true, decide_eq_true_eq]
  have h' := List.pairwise_cons.1 h
  exact ⟨hm a (by simp), h'.1 a (by simp), yP l (some a) h'.2 (fun x hx => hm x (by simp [hx]))⟩
theorem K7 {h : Zb} {A B : DV} {xs : List V} (hA : vw h 4 A = some (xs.map V.d)) (hB : vw h 4 B = some (xs.map V.d)) (hb : xs.length ≤ 1000000) :
 ∀ (k i : Nat), xs.length - i ≤ k → i ≤ xs.length → ∃ e', C X (.loop rY) [(0, A), (1, B), (5, .int .i64 i)] h = some (.exit 0, e', h) := by
 intro k
 induction k with
 | zero =>
  intro i hk hi
  obtain rfl : i = xs.length := by omega
  rw [Zc]
  unfold rY
  refine rn @hA ?_
  rw [Zx]
  exact ⟨_, rfl⟩
 | succ k ih =>
  intro i hk hi
  by_cases w0 : i < xs.length
  ·obtain ⟨I, hI⟩ : ∃ I, I = i + 1 := ⟨_, rfl⟩
   have w1 : IntKind.i64.wrap ((i : Int) + 1) = (I : Int) := wr
   have hs : C X rY [(0, A), (1, B), (5, .int .i64 i)] h = some (.norm, [(0, A), (1, B), (5, .int .i64 I)], h) := by
    unfold rY
    refine Yx (eP @hA @hB @w0 @w1 @j7) ?_
    simp [Za, lk]
   rw [Zc, hs, ZB]
   exact ih I (by omega) (by omega)
  ·exact ih i (by omega) hi
theorem D6 {h : Zb} {A B : DV} {xs : List V} (hA : vw h 4 A = some (xs.map V.d)) (hB : vw h 4 B = some (xs.map V.d)) (hb : xs.length ≤ 1000000) : E X 20 [A, B] h = some (.bool true, h) := by
 obtain ⟨e', c1⟩ := K7 hA hB hb xs.length 0 (by omega) (by omega)
 have cA : ((xs.length : Int) != xs.length) = false := by simp
 rw [show ((0 : Nat) : Int) = 0 from rfl] at c1
 rw [Zv (X := X) _ PZ _ rfl rfl]; unfold PZ
 refine rn (cg @hA @hB @cA) ?_
 refine Yy ?_
 rw [c1]
 refine rn trivial ?_
 exact re trivial
def Qa (R : DV) (rs : List V) : Prop := R = .list 4 (rs.map V.d) false ∨ (R = .nils ∧ rs = [])
theorem Qa.vw {R : DV} {rs : List V} (h : Qa R rs) (g : Zb) : vw g 4 R = some (rs.map V.d) := by
 rcases h with rfl | ⟨rfl, rfl⟩ <;> rfl
def hq (H : Zb) (os : List V) (ts : List Int) : Zb := H ++ [.row 56 4 0 (os.map V.d), .row 3 1 0 (ts.map (.int .i64))]
section
variable {H : Zb} {os : List V} {ts : List Int} {n : Nat}
end
theorem Gz {ys : List V} (hu : Up ys) {p : Nat} {x : V} (hx : ys[p]? = some x) : place ys x = p := by
 have h1 := (lh hu (List.mem_of_getElem? hx)).1
 rcases Nat.lt_trichotomy (place ys x) p with h | h | h
 ·exact absurd (yG hu h h1 hx) (iI x)
 ·exact h
 ·exact absurd (yG hu h hx h1) (iI x)
end Go.Proofs.YtmbgfbomgbdjeaaGreatDoor
