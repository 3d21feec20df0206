/- Ideal runs. -/
import Derived.Test.YteekbciaggmfgaaDoorStep
import Derived.Test.YteekbciaggmfgaaDoorPlainM
import Derived.Test.YteekbciaggmfgaaDoorSortB
namespace Go.Proofs.YteekbciaggmfgaaDoor
attribute [local go_sem] ZF Zy ZA ZB Zp Zf Zm Zi Zk Zc Zd Zj Zq Zr ZC Zo Zg Zz Zu Zt ZR Zv Yj put lk Od.v Za Ze Zl Yv Yb Ya Yd ai Yt DV.isU DV.cells ae ZJ ZX ZK Zn splice ZM af ZT Ys bz bR bL bf bP bu aZ bn bN bg bQ bj bq bh bU bV bK aQ aR
attribute [local go_sem ↓] Zh
set_option linter.unusedVariables false
set_option linter.unusedSimpArgs false
set_option maxRecDepth 10000
theorem Ew : Go.Sort.SWO lt where
 irrefl x := by have := gX x; simp [lt]; omega
 trans x y z h1 h2 := by
  have := kT x y z (dh h1) (dh h2)
  simp [lt, this]
 ntrans x y z h1 h2 := by
  cases h : lt x z
  ·rfl
  ·rcases GZ x y z (dh h) with h3 | h3
   ·exact absurd h3 (di h1)
   ·exact absurd h3 (di h2)
theorem Kg {n r g : Nat} (hn : n < 256) (H : Zb) (d : Array V) (hr : r < H.length) (hd : d.size = n) : ∃ l, E X 83 [au r g n, .int .i64 0, .int .i64 n, .int .i64 (Go.Sort.bitsLen n : Nat), .func 69 [] []] (hp H r g d) = some (.tup [], hp (H ++ l) r g (Go.Sort.sort lt d)) := by
 have h8 := ni n hn
 have h := Fs (r := r) (g := g) hn n 0 n (Go.Sort.bitsLen n) true true d H (by omega) (by omega) (Nat.le_refl _) hd (by omega) hr
 obtain ⟨l, h2⟩ := yA hr h.1
 refine ⟨l, ?_⟩
 rw [Go.Sort.sort, hd]
 exact h2
theorem Gn {n : Nat} (hn : n < 256) {H : Zb} {r g : Nat} (hr : r < H.length) (d : Array V) (hd : d.size = n) :
 ∃ l, E X 68 [au r g n, .func 69 [] []] (hp H r g d) = some (.tup [], hp (H ++ l) r g (Go.Sort.sort lt d)) := by
 obtain ⟨l, e⟩ := Kg (g := g) hn H d hr hd
 have e2 := Eb n hn
 have r0 := rf (H := H) g d hr
 rw [hd] at r0
 have w : IntKind.u64.wrap (n : Int) = n := by simp [IntKind.wrap, IntKind.bits, IntKind.signed]; omega
 obtain ⟨l', h2⟩ := vH (g := g) hr d (Go.Sort.sort lt d) l
 refine ⟨l', ?_⟩
 rw [ZO (X := X) _ JC _ rfl rfl]; unfold JC
 refine rn (mh @e @e2 @r0 @hd @w) ?_
 simp only [ZV, Yc, Option.map_some]
 rw [h2]
theorem nK (vs : List V) : (Go.Sort.sort lt vs.toArray).toList.Perm vs := by
 have h := (Go.Sort.sort_sorts lt Ew vs.toArray).1
 have h3 := h.2.2
 rw [List.size_toArray] at h3 h
 have e1 : (Go.Sort.sort lt vs.toArray).extract 0 vs.length = Go.Sort.sort lt vs.toArray := by
  have hs : (Go.Sort.sort lt vs.toArray).size = vs.length := by rw [h.1]; simp
  rw [← hs]; exact Array.extract_size
 have e2 : vs.toArray.extract 0 vs.length = vs.toArray := by
  have : vs.toArray.size = vs.length := by simp
  rw [← this]; exact Array.extract_size
 rw [e1, e2] at h3
 simpa using h3
theorem Gt {H : Zb} {o m : Nat} {L : DV} {Yu : Int} {vs : List V} (hd : DictAt H o m L Yu vs) (hv : vs ≠ []) (hn : vs.length < 256) {ys : List V} (hys : ys = (Go.Sort.sort lt vs.toArray).toList) :
 E X 41 [.ref o 0] H = some (.tup [.list 4 (ys.map V.d) false, .list 1 (toS ys vs) false], H) := by
 have iC : ys.length = vs.length := by rw [hys]; exact (nK vs).length_eq
 have MH : Go.Sort.sort lt vs.toArray = ys.toArray := by rw [hys]
 have e1 := Ed hd
 have e2 := hd.box
 have Mc := hle hd.box
 have e3 := hd.len
 have Mb := hd.len0
 have hpos : vs.length ≠ 0 := by simpa using hv
 have hb0 : ((vs.length : Int) == 0) = false := by simpa using hv
 obtain ⟨r, g, rfl, hrow⟩ : ∃ r g, L = .row r g 0 vs.length false ∧ H[r]? = some (.row 34 4 g (vs.map V.d)) := by
  rcases hd.row with ⟨h, _⟩ | h
  ·exact absurd h hv
  ·exact h
 have e4 := Ko hv Mb (by omega)
 obtain ⟨l0, e5⟩ : ∃ l0, E X 68 [.row H.length 0 0 vs.length false, .func 69 [] []] (H ++ [HO.row 34 4 0 (vs.map V.d)]) = some (.tup [], H ++ [HO.row 34 4 0 (ys.map V.d)] ++ l0) := by
  obtain ⟨l0, h⟩ := Gn hn (H := H ++ [HO.row 34 4 0 (vs.map V.d)]) (r := H.length) (g := 0) (by simp) vs.toArray (by simp)
  rw [← F4 (g := 0) vs.toArray _ (by simp), MH] at h
  refine ⟨l0, ?_⟩
  rw [h]
  simp [hp, ZK]
 have hL : ∀ l, vw ((H ++ [HO.row 34 4 0 (ys.map V.d)]) ++ l) 4 (.row r g 0 vs.length false) = some (vs.map V.d) := fun l => by rw [List.append_assoc]; exact e3 _
 have hY : ∀ l, vw ((H ++ [HO.row 34 4 0 (ys.map V.d)]) ++ l) 4 (.row H.length 0 0 vs.length false) = some (ys.map V.d) := fun l => by
  simp [vw, ← iC, List.take_of_length_le]
 obtain ⟨e', T', l', c1, c2, c3, c4⟩ := Ht hL hY (by omega) (by omega) vs.length 0 .nils l0 (by omega) (by omega) (.inl ⟨by simp [toS], rfl⟩)
 have c5 := y8 iC.symm (by simpa using c4) (by simpa [toS] using hv) (by intro x hx; obtain ⟨v, _, rfl⟩ := List.mem_map.1 hx; exact .int _ _)
 have A0 := hL l0
 rw [show ((0 : Nat) : Int) = 0 from rfl] at c1
 have I9 : (H ++ [HO.row 34 4 0 (ys.map V.d)] ++ l0)[o]? = some (.box 100 [.int .i64 Yu, .row r g 0 vs.length false, .map m]) := by rw [List.append_assoc]; exact Mc _
 generalize hG : H ++ [HO.row 34 4 0 (ys.map V.d)] ++ l0 = G at e5 c1 A0 I9
 rw [ZO (X := X) _ BX _ rfl rfl]; unfold BX
 refine rn (jC @e1 @e2 @Mc @I9 @Mb @hb0 @e4 @e5 @A0) ?_
 refine aD ?_
 rw [c1]
 refine rn (cC @c2 @c3) ?_
 simp only [Zw, Yc, Za, List.map_cons, List.map_nil, lk, reduceIte, Nat.reduceEqDiff, Option.map_some]
 simp only [List.append_assoc, List.cons_append, List.nil_append] at c5 ⊢
 rw [c5]
theorem Gu {H : Zb} {o m : Nat} {L : DV} {Yu : Int} (hd : DictAt H o m L Yu []) : E X 41 [.ref o 0] H = some (.tup [.nils, .nils], H) := by
 have e1 := Ed hd
 simp at e1
 rw [ZO (X := X) _ BX _ rfl rfl]; unfold BX; exact rg @e1
def dP (Yu : Int) (vs : List V) (v : V) : Int × Int × List V :=
 if aG v = true then
  match eT v vs 0 with
  | some j => (j, 0, vs)
  | none => if Yu ≤ vs.length then (0, 4, vs) else (vs.length, 0, vs ++ [v])
 else (0, 1, vs)
theorem zR {H : Zb} {o m : Nat} {L : DV} {Yu : Int} {vs : List V} (hd : DictAt H o m L Yu vs) (hb : Yu ≤ 4096) (v : V) :
 ∃ L' H', E X 40 [.ref o 0, v.d] H = some (.tup [.int .i64 (dP Yu vs v).1, .int .i64 (dP Yu vs v).2.1], H') ∧ DictAt H' o m L' Yu (dP Yu vs v).2.2 ∧ H.length ≤ H'.length ∧
  (∀ i < H.length, i ≠ o → i ≠ m → rowOf L ≠ some i → H'[i]? = H[i]?) ∧ (rowOf L' = rowOf L ∨ ∃ r, rowOf L' = some r ∧ H.length ≤ r) := by
 unfold dP
 cases hm : aG v
 ·rw [if_neg (by simp)]
  exact ⟨L, H, CG hd v hm, hd, Nat.le_refl _, fun _ _ _ _ _ => rfl, .inl rfl⟩
 ·rw [if_pos rfl]
  cases hf : eT v vs 0 with
  | some j => exact ⟨L, H, CI hd v hm hf, hd, Nat.le_refl _, fun _ _ _ _ _ => rfl, .inl rfl⟩
  | none =>
   simp only
   by_cases hl : Yu ≤ vs.length
   ·rw [if_pos hl]
    exact ⟨L, H, yq hd v hm hf hl, hd, Nat.le_refl _, fun _ _ _ _ _ => rfl, .inl rfl⟩
   ·rw [if_neg hl]
    exact zS hd v hm hf (by omega) hb
theorem DictAt.keep {H H' : Zb} {o m : Nat} {L : DV} {Yu : Int} {vs : List V} (hd : DictAt H o m L Yu vs) (ho : H'[o]? = H[o]?) (hm : H'[m]? = H[m]?) (hL : ∀ r, rowOf L = some r → H'[r]? = H[r]?) : DictAt H' o m L Yu vs :=
 ⟨ho.trans hd.box, hm.trans hd.map, by
  rcases hd.row with h | ⟨r, g, h1, h2⟩
  ·exact .inl h
  ·exact .inr ⟨r, g, h1, (hL r (by rw [h1]; rfl)).trans h2⟩⟩
theorem dX.keep {n0 t sz : Nat} {H H' : Zb} {N : DV} {ns : List DV} (hg : dX n0 t sz H N ns) (hN : ∀ r, rowOf N = some r → H'[r]? = H[r]?) : dX n0 t sz H' N ns := by
 rcases hg with h | ⟨r, g, h1, h2, h3⟩
 ·exact .inl h
 ·exact .inr ⟨r, g, h1, h2, (hN r (by rw [h1]; rfl)).trans h3⟩
theorem pW : ∀ x y : List UInt8, Op.bytesLess x y = false → Op.bytesLess y x = false → x = y
 | [], [], _, _ => rfl
 | [], b :: y, h, _ => by simp [Op.bytesLess] at h
 | a :: x, [], _, h => by simp [Op.bytesLess] at h
 | a :: x, b :: y, h, h' => by
  simp only [Op.bytesLess, Bool.or_eq_false_iff, Bool.and_eq_false_iff, decide_eq_false_iff_not, beq_eq_false_iff_ne, ne_eq] at h h'
  have e : a = b := by
   have h1 := h.1; have h2 := h'.1
   rw [UInt8.lt_iff_toNat_lt] at h1 h2
   exact UInt8.toNat_inj.1 (by omega)
  subst e
  have h1 : Op.bytesLess x y = false := by rcases h.2 with h | h; exact absurd rfl h; exact h
  have h2 : Op.bytesLess y x = false := by rcases h'.2 with h | h; exact absurd rfl h; exact h
  rw [pW x y h1 h2]
theorem j4 {s : ByteArray} (h : (s == ⟨#[]⟩) = true) : s = ⟨#[]⟩ := by
 have h' : (s.data == #[]) = true := h
 cases s
 simp at h' ⊢
 exact h'
theorem uX {a b : V} (ha : aG a = true) (hb : aG b = true) (h1 : ¬ ord a b < 0) (h2 : ¬ ord b a < 0) : a = b := by
 rw [jY] at h1 h2
 obtain ⟨k, n, s, t⟩ := a
 obtain ⟨k', n', s', t'⟩ := b
 simp only at h1 h2
 have hk : k = k' := by omega
 subst hk
 unfold aG at ha hb
 simp only at ha hb
 by_cases q1 : k = 1
 ·rw [if_pos q1] at ha hb
  simp only [Bool.and_eq_true, Bool.not_eq_true'] at ha hb
  rw [j4 ha.1, j4 hb.1, ha.2, hb.2]
  have : n = n' := by omega
  rw [this]
 rw [if_neg q1] at ha hb
 by_cases q2 : k = 2
 ·rw [if_pos q2] at ha hb
  simp only [Bool.and_eq_true, Bool.not_eq_true', beq_iff_eq] at ha hb
  have e1 : jm s s' = false := by
   cases h : jm s s'
   ·rfl
   ·exact absurd (.inr ⟨rfl, .inr (.inl ⟨q2, h⟩)⟩) h1
  have e2 : jm s' s = false := by
   cases h : jm s' s
   ·rfl
   ·exact absurd (.inr ⟨rfl, .inr (.inl ⟨q2, h⟩)⟩) h2
  unfold jm at e1 e2
  have e3 := pW _ _ e1 e2
  rw [ByteArray.toList_eq, ByteArray.toList_eq] at e3
  have e4 : s = s' := by
   cases s; cases s'
   simp at e3 ⊢
   exact e3
  rw [ha.1.1, hb.1.1, ha.1.2, hb.1.2, e4]
 rw [if_neg q2] at ha hb
 by_cases q3 : k = 3
 ·rw [if_pos q3] at ha hb
  simp only [Bool.and_eq_true, beq_iff_eq] at ha hb
  rw [ha.1, hb.1, j4 ha.2, j4 hb.2]
  cases t <;> cases t'
  ·rfl
  ·exact absurd (.inr ⟨rfl, .inr (.inr ⟨q3, rfl, rfl⟩)⟩) h1
  ·exact absurd (.inr ⟨rfl, .inr (.inr ⟨q3, rfl, rfl⟩)⟩) h2
  ·rfl
 rw [if_neg q3] at ha hb
 by_cases q4 : k = 0
 ·rw [if_pos q4] at ha hb
  simp only [Bool.and_eq_true, Bool.not_eq_true', beq_iff_eq] at ha hb
  rw [ha.1.1, hb.1.1, j4 ha.1.2, j4 hb.1.2, ha.2, hb.2]
 ·rw [if_neg q4] at ha
  cases ha
def Gd (vs : List V) : Prop := (∀ x ∈ vs, aG x = true) ∧ vs.Pairwise (· ≠ ·)
theorem IK : Gd [] := ⟨by simp, List.Pairwise.nil⟩
theorem oM {v : V} {l : List V} {i : Nat} (h : eT v l i = none) : v ∉ l := fun hm => by
 have := qn v l i h v hm
 rw [(V.eqb_iff v v).2 rfl] at this; cases this
theorem FW (Yu : Int) {vs : List V} (v : V) (h : Gd vs) : Gd (dP Yu vs v).2.2 := by
 unfold dP
 cases hm : aG v
 ·exact h
 ·rw [if_pos rfl]
  cases hf : eT v vs 0 with
  | some j => exact h
  | none =>
   simp only
   split
   ·exact h
   ·refine ⟨fun x hx => ?_, ?_⟩
    ·rcases List.mem_append.1 hx with hx | hx
     ·exact h.1 x hx
     ·simp at hx; rw [hx]; exact hm
    ·rw [List.pairwise_append]
     refine ⟨h.2, List.pairwise_singleton _ _, fun a ha b hb => ?_⟩
     simp at hb
     subst hb
     rintro rfl
     exact oM hf ha
theorem DU (Yu : Int) (vs : List V) (v : V) : ∃ t, (dP Yu vs v).2.2 = vs ++ t := by
 unfold dP
 split
 ·split
  ·exact ⟨[], by simp⟩
  ·split
   ·exact ⟨[], by simp⟩
   ·exact ⟨[v], rfl⟩
 ·exact ⟨[], by simp⟩
theorem DT (Yu : Int) (vs : List V) (v : V) : (dP Yu vs v).2.2.length ≤ vs.length + 1 := by
 unfold dP
 split
 ·split
  ·simp
  ·split <;> simp
 ·simp
theorem FV {Yu : Int} {vs : List V} {v : V} (h : (dP Yu vs v).2.1 = 0) : ∃ j : Nat, (dP Yu vs v).1 = (j : Int) ∧ (dP Yu vs v).2.2[j]? = some v := by
 unfold dP at h ⊢
 cases hm : aG v
 ·rw [hm] at h; simp at h
 ·rw [hm] at h
  rw [if_pos rfl] at h ⊢
  cases hf : eT v vs 0 with
  | some j =>
   obtain ⟨_, _, h3⟩ := rE v vs 0 j hf
   exact ⟨j, rfl, by simpa using h3⟩
  | none =>
   rw [hf] at h
   simp only at h ⊢
   by_cases hl : Yu ≤ vs.length
   ·rw [if_pos hl] at h; simp at h
   ·rw [if_neg hl]
    exact ⟨vs.length, rfl, by simp⟩
theorem Fg {vs : List V} (h : Gd vs) : Up (Go.Sort.sort lt vs.toArray).toList := by
 have hs := (Go.Sort.sort_sorts lt Ew vs.toArray)
 have hp := nK vs
 have hz : (Go.Sort.sort lt vs.toArray).size = vs.length := by rw [hs.1.1]; simp
 have Ic : (Go.Sort.sort lt vs.toArray).toList.Pairwise (· ≠ ·) := (hp.pairwise_iff (fun h => Ne.symm h)).2 h.2
 have Lt := hs.2
 rw [List.size_toArray] at Lt
 rw [Up, List.pairwise_iff_getElem]
 intro i j hi hj hij
 have h1 := Lt i j (Nat.zero_le _) hij (by simp at hj; omega)
 simp only [Array.length_toList] at hi hj
 rw [getElem!_pos _ i hi, getElem!_pos _ j hj] at h1
 have hne := List.pairwise_iff_getElem.1 Ic i j (by simpa using hi) (by simpa using hj) hij
 simp only [Array.getElem_toList] at hne ⊢
 refine Decidable.byContradiction fun hc => ?_
 have m1 : aG (Go.Sort.sort lt vs.toArray)[i] = true := h.1 _ (hp.mem_iff.1 (by simp))
 have m2 : aG (Go.Sort.sort lt vs.toArray)[j] = true := h.1 _ (hp.mem_iff.1 (by simp))
 exact hne (uX m1 m2 hc (di h1))
theorem zI : ∀ (xs ys : List V), Up xs → Up ys → (∀ v, v ∈ xs ↔ v ∈ ys) → xs = ys
 | [], [], _, _, _ => rfl
 | [], b :: ys, _, _, h => by have := (h b).2 (by simp); simp at this
 | a :: xs, [], _, _, h => by have := (h a).1 (by simp); simp at this
 | a :: xs, b :: ys, hx, hy, h => by
  have px := List.pairwise_cons.1 hx
  have py := List.pairwise_cons.1 hy
  have hab : a = b := by
   rcases List.mem_cons.1 ((h a).1 (by simp)) with e | e
   ·exact e
   ·rcases List.mem_cons.1 ((h b).2 (by simp)) with e' | e'
    ·exact e'.symm
    ·exact absurd (kT _ _ _ (px.1 b e') (py.1 a e)) (gX a)
  subst hab
  rw [zI xs ys px.2 py.2 (fun v => ⟨fun hv => ?_, fun hv => ?_⟩)]
  ·rcases List.mem_cons.1 ((h v).1 (by simp [hv])) with e | e
   ·subst e; exact absurd (px.1 v hv) (gX v)
   ·exact e
  ·rcases List.mem_cons.1 ((h v).2 (by simp [hv])) with e | e
   ·subst e; exact absurd (py.1 v hv) (gX v)
   ·exact e
theorem pE {ys : List V} (h : Up ys) {v : V} (hm : v ∈ ys) : ys[place ys v]? = some v ∧ found ys v = true := by
 have hf := Br h v
 have hs : (eT v ys 0).isSome = true := by
  cases hq : eT v ys 0 with
  | none => exact absurd hm (oM hq)
  | some j => rfl
 rw [hs] at hf
 refine ⟨?_, hf⟩
 unfold found at hf
 cases hx : ys[place ys v]? with
 | none => rw [hx] at hf; simp at hf
 | some x => rw [hx] at hf; simp at hf; rw [(V.eqb_iff _ _).1 hf]
theorem uu : ∀ (l : List V) (p : Option V), Up (p.toList ++ l) → (∀ x ∈ l, aG x = true) → bJ p l = true
 | [], p, _, _ => by cases p <;> rfl
 | a :: l, none, h, hm => by
  simp only [bJ, Bool.and_eq_true]
  exact ⟨hm a (by simp), uu l (some a) h (fun x hx => hm x (by simp [hx]))⟩
 | a :: l, some p, h, hm => by
  simp only [bJ, Bool.and_eq_true, decide_eq_true_eq]
  have h' := List.pairwise_cons.1 h
  exact ⟨hm a (by simp), h'.1 a (by simp), uu l (some a) h'.2 (fun x hx => hm x (by simp [hx]))⟩
theorem G1 {h : Zb} {A B : DV} {xs : List V} (hA : vw h 4 A = some (xs.map V.d)) (hB : vw h 4 B = some (xs.map V.d)) (hb : xs.length ≤ 1000000) :
 ∀ (k i : Nat), xs.length - i ≤ k → i ≤ xs.length → ∃ e', C X (.loop qR) [(0, A), (1, B), (5, .int .i64 i)] h = some (.exit 0, e', h) := by
 intro k
 induction k with
 | zero =>
  intro i hk hi
  obtain rfl : i = xs.length := by omega
  rw [Zx]
  unfold qR
  refine rn @hA ?_
  rw [ZS]
  exact ⟨_, rfl⟩
 | succ k ih =>
  intro i hk hi
  by_cases w0 : i < xs.length
  ·obtain ⟨I, hI⟩ : ∃ I, I = i + 1 := ⟨_, rfl⟩
   have w1 : IntKind.i64.wrap ((i : Int) + 1) = (I : Int) := wr
   have hs : C X qR [(0, A), (1, B), (5, .int .i64 i)] h = some (.norm, [(0, A), (1, B), (5, .int .i64 I)], h) := by
    unfold qR
    refine aT (mh @hA @hB @w0 @w1 @aS) ?_
    simp [Za, lk]
   rw [Zx, hs, ZZ]
   exact ih I (by omega) (by omega)
  ·exact ih i (by omega) hi
theorem D9 {h : Zb} {A B : DV} {xs : List V} (hA : vw h 4 A = some (xs.map V.d)) (hB : vw h 4 B = some (xs.map V.d)) (hb : xs.length ≤ 1000000) : E X 9 [A, B] h = some (.bool true, h) := by
 obtain ⟨e', c1⟩ := G1 hA hB hb xs.length 0 (by omega) (by omega)
 have lY : ((xs.length : Int) != xs.length) = false := by simp
 rw [show ((0 : Nat) : Int) = 0 from rfl] at c1
 rw [ZO (X := X) _ b9 _ rfl rfl]; unfold b9
 refine rn (ew @hA @hB @lY) ?_
 refine aD ?_
 rw [c1]
 refine rn trivial ?_
 exact re trivial
def JY (R : DV) (rs : List V) : Prop := R = .list 4 (rs.map V.d) false ∨ (R = .nils ∧ rs = [])
theorem JY.vw {R : DV} {rs : List V} (h : JY R rs) (g : Zb) : vw g 4 R = some (rs.map V.d) := by
 rcases h with rfl | ⟨rfl, rfl⟩ <;> rfl
def hq (H : Zb) (os : List V) (ts : List Int) : Zb := H ++ [.row 34 4 0 (os.map V.d), .row 3 1 0 (ts.map (.int .i64))]
section
variable {H : Zb} {os : List V} {ts : List Int} {n : Nat}
end
theorem uv {ys : List V} (hu : Up ys) {p : Nat} {x : V} (hx : ys[p]? = some x) : place ys x = p := by
 have h1 := (pE hu (List.mem_of_getElem? hx)).1
 rcases Nat.lt_trichotomy (place ys x) p with h | h | h
 ·exact absurd (uc hu h h1 hx) (gX x)
 ·exact h
 ·exact absurd (uc hu h hx h1) (gX x)
end Go.Proofs.YteekbciaggmfgaaDoor
