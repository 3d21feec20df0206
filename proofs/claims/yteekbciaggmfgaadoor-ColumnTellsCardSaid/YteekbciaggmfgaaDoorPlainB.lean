/- Ideal runs. -/
import Derived.Test.YteekbciaggmfgaaDoorStep
import Derived.Test.YteekbciaggmfgaaDoorCode
import Derived.Sort.Defs
namespace Go.Proofs.YteekbciaggmfgaaDoor
attribute [local go_sem] ZF Zy ZA ZB Zp Zf Zm Zi Zk Zc Zd Zj Zq Zr ZC Zo Zg Zz Zu Zt ZR Zv Yj put lk Od.v Za Ze Zl Yv Yb Ya Yd ai Yt DV.isU DV.cells ae ZJ ZX ZK Zn splice ZM af ZT Ys bz bR bL bf bP bu aZ bn bN bg bQ bj bq bh bU bV bK aQ aR
attribute [local go_sem ↓] Zh
set_option linter.unusedVariables false
set_option linter.unusedSimpArgs false
set_option maxRecDepth 10000
structure V where
 k : Int
 n : Int
 s : ByteArray
 t : Bool
abbrev V.d (v : V) : DV := .agg [.int .i64 v.k, .int .i64 v.n, .str v.s, .bool v.t]
def V0 : V := ⟨0, 0, ⟨#[]⟩, false⟩
theorem uK (a : Int) (h : Zb) : E X 101 [.int .i64 a] h = some (.bool false, h) := by
 rw [ZO (X := X) _ DO _ rfl rfl]; unfold DO; exact rg trivial
theorem aS (a : ByteArray) : (a == a) = true := by
 show (a.data == a.data) = true
 simp
theorem uJ (a : ByteArray) (h : Zb) : E X 102 [.str a] h = some (.bool false, h) := by
 rw [ZO (X := X) _ DN _ rfl rfl]; unfold DN; exact rg @aS
theorem qG (a : Bool) (h : Zb) : E X 62 [.bool a] h = some (.int .i64 (if a then 1 else 0), h) := by
 cases a
 ·rw [ZO (X := X) _ rY _ rfl rfl]; unfold rY; exact rg trivial
 ·rw [ZO (X := X) _ rY _ rfl rfl]; unfold rY; exact rg trivial
def ef (a b : Int) : Int := if a < b then -1 else if b < a then 1 else 0
theorem qF (a b : Int) (h : Zb) : E X 85 [.int .i64 a, .int .i64 b] h = some (.int .i64 (ef a b), h) := by
 by_cases h1 : a < b
 ·rw [ZO (X := X) _ wj _ rfl rfl]; unfold wj; exact GM (cC @uK @h1)
 by_cases h2 : b < a
 ·rw [ZO (X := X) _ wj _ rfl rfl]; unfold wj; exact GM (ew @uK @h1 @h2)
 ·rw [ZO (X := X) _ wj _ rfl rfl]; unfold wj; exact GM (ew @uK @h1 @h2)
def jm (a b : ByteArray) : Bool := Op.bytesLess a.toList b.toList
def jK (a b : ByteArray) : Int := if jm a b then -1 else if !(jm a b || a == b) then 1 else 0
theorem qE (a b : ByteArray) (h : Zb) : E X 86 [.str a, .str b] h = some (.int .i64 (jK a b), h) := by
 cases h1 : Op.bytesLess a.toList b.toList
 ·cases h2 : (a == b)
  ·rw [ZO (X := X) _ wi _ rfl rfl]; unfold wi; exact CK (ew @uJ @h1 @h2)
  ·rw [ZO (X := X) _ wi _ rfl rfl]; unfold wi; exact CK (ew @uJ @h1 @h2)
 ·rw [ZO (X := X) _ wi _ rfl rfl]; unfold wi; exact CK (cC @uJ @h1)
def ord (a b : V) : Int := if a.k ≠ b.k then ef a.k b.k else if a.k = 1 then ef a.n b.n else if a.k = 2 then jK a.s b.s else if a.k = 3 then ef (if a.t then 1 else 0) (if b.t then 1 else 0) else 0
theorem bC (a b : V) (h : Zb) : E X 69 [a.d, b.d] h = some (.int .i64 (ord a b), h) := by
 obtain ⟨k, n, s, t⟩ := a
 obtain ⟨k', n', s', t'⟩ := b
 by_cases h1 : k = k'
 ·subst h1
  by_cases h2 : k = 1
  ·subst h2
   rw [ZO (X := X) _ oV _ rfl rfl]; unfold oV; exact uO (ew @qF @qE @qG)
  by_cases h3 : k = 2
  ·subst h3
   rw [ZO (X := X) _ oV _ rfl rfl]; unfold oV; exact uO (ew @qF @qE @qG)
  by_cases h4 : k = 3
  ·subst h4
   rw [ZO (X := X) _ oV _ rfl rfl]; unfold oV; exact uO (ew @qF @qE @qG)
  have e2 : (k == 1) = false := by simpa using h2
  have e3 : (k == 2) = false := by simpa using h3
  have e4 : (k == 3) = false := by simpa using h4
  rw [ZO (X := X) _ oV _ rfl rfl]; unfold oV; exact uO (jC @h2 @h3 @h4 @e2 @e3 @e4 @qF @qE @qG)
 ·have e1 : (k != k') = true := by simpa using h1
  rw [ZO (X := X) _ oV _ rfl rfl]; unfold oV; exact uO (mh @h1 @e1 @qF @qE @qG)
def aG (v : V) : Bool := if v.k = 1 then v.s == ⟨#[]⟩ && !v.t else if v.k = 2 then v.n == 0 && !v.t && decide (v.s.size ≤ 64) else if v.k = 3 then v.n == 0 && v.s == ⟨#[]⟩ else if v.k = 0 then v.n == 0 && v.s == ⟨#[]⟩ && !v.t else false
theorem pg (v : V) (h : Zb) : E X 60 [v.d] h = some (.bool (aG v), h) := by
 obtain ⟨k, n, s, t⟩ := v
 by_cases h1 : k = 1
 ·subst h1
  rw [ZO (X := X) _ mr _ rfl rfl]; unfold mr; exact mJ trivial
 have e1 : (k == 1) = false := by simpa using h1
 by_cases h2 : k = 2
 ·subst h2
  by_cases h5 : s.size ≤ 64
  ·have e5 : ¬ (64 : Int) < (s.size : Int) := by omega
   rw [ZO (X := X) _ mr _ rfl rfl]; unfold mr; exact mJ (ew @h5 @e5 @aS)
  ·have e5 : (64 : Int) < (s.size : Int) := by omega
   rw [ZO (X := X) _ mr _ rfl rfl]; unfold mr; exact mJ (cC @h5 @e5)
 have e2 : (k == 2) = false := by simpa using h2
 by_cases h3 : k = 3
 ·subst h3
  rw [ZO (X := X) _ mr _ rfl rfl]; unfold mr; exact mJ trivial
 have e3 : (k == 3) = false := by simpa using h3
 by_cases h4 : k = 0
 ·subst h4
  rw [ZO (X := X) _ mr _ rfl rfl]; unfold mr; refine GK trivial ?_; simp [Zw, ZV, Yc, go_sem, fin, aV, aO, bH, cL, dD, aG]
  cases t <;> simp
 have e4 : (k == 0) = false := by simpa using h4
 rw [ZO (X := X) _ mr _ rfl rfl]; unfold mr; exact mJ (gN @h1 @h2 @h3 @h4 @e1 @e2 @e3 @e4)
theorem Fj (n : Int) (s : ByteArray) (t : Bool) (h : Zb) : E X 46 [.agg [.int .i64 2, .int .i64 n, .str s, .bool t]] h = some (.bool (aG ⟨2, n, s, t⟩), h) := by
 cases q0 : (n == 0) <;> cases q2 : t
 all_goals
  rw [ZO (X := X) _ oZ _ rfl rfl]; unfold oZ; refine GK (cC @q0 @q2) ?_; simp [Zw, ZV, Yc, go_sem, fin, aV, aO, bH, cL, dD, aG, q0, q2]
 all_goals omega
theorem El (v : V) (h : Zb) : E X 46 [v.d] h = some (.bool (aG v), h) := by
 obtain ⟨k, n, s, t⟩ := v
 by_cases h1 : k = 1
 ·subst h1
  rw [ZO (X := X) _ oZ _ rfl rfl]; unfold oZ; exact mJ trivial
 have e1 : (k == 1) = false := by simpa using h1
 by_cases h2 : k = 2
 ·subst h2
  exact Fj n s t h
 have e2 : (k == 2) = false := by simpa using h2
 by_cases h3 : k = 3
 ·subst h3
  rw [ZO (X := X) _ oZ _ rfl rfl]; unfold oZ; exact mJ trivial
 have e3 : (k == 3) = false := by simpa using h3
 by_cases h4 : k = 0
 ·subst h4
  rw [ZO (X := X) _ oZ _ rfl rfl]; unfold oZ; exact mJ trivial
 have e4 : (k == 0) = false := by simpa using h4
 rw [ZO (X := X) _ oZ _ rfl rfl]; unfold oZ; exact mJ (gN @h1 @h2 @h3 @h4 @e1 @e2 @e3 @e4)
def V.eqb (a b : V) : Bool := a.k == b.k && (a.n == b.n && (a.s == b.s && a.t == b.t))
theorem V.eqb_iff (a b : V) : a.eqb b = true ↔ a = b := by
 obtain ⟨k, n, s, t⟩ := a
 obtain ⟨k', n', s', t'⟩ := b
 have hs : (s == s') = true ↔ s = s' := by
  constructor
  ·intro h
   have h' : (s.data == s'.data) = true := h
   cases s; cases s'
   simp at h' ⊢
   exact h'
  ·rintro rfl; exact aS s
 simp only [V.eqb, Bool.and_eq_true, hs, beq_iff_eq, V.mk.injEq]
def eT (v : V) : List V → Nat → Option Nat
 | [], _ => none
 | a :: l, i => if v.eqb a then some i else eT v l (i + 1)
def jJ : List V → Nat → List (DV × DV)
 | [], _ => []
 | a :: l, i => (a.d, .int .i64 i) :: jJ l (i + 1)
theorem qU (a b : V) : eP true [1, 1, 2, 0] a.d b.d = some (a.eqb b) := by
 simp [eP, ZT, Ys, V.eqb]
theorem qO (v : V) : ∀ (l : List V) (i : Nat), gm true [1, 1, 2, 0] v.d (jJ l i) = some ((eT v l i).map fun j => .int .i64 (j : Int))
 | [], i => rfl
 | a :: l, i => by
  simp only [jJ, gm, qU, eT]
  cases h : v.eqb a
  ·simp [qO v l]
  ·simp
theorem tt (v : V) : ∀ (l : List V) (i : Nat), eT v l i = none → fw true [1, 1, 2, 0] v.d (.int .i64 ((i + l.length : Nat) : Int)) (jJ l i) = some (jJ (l ++ [v]) i)
 | [], i, _ => by simp [fw, jJ]
 | a :: l, i, hf => by
  simp only [eT] at hf
  cases h : v.eqb a
  ·rw [h] at hf
   have := tt v l (i + 1) (by simpa using hf)
   simp only [jJ, fw, qU, h, List.cons_append]
   rw [show i + (a :: l).length = i + 1 + l.length by simp; omega, this]
   rfl
  ·rw [h] at hf; cases hf
theorem rE (v : V) : ∀ (l : List V) (i j : Nat), eT v l i = some j → i ≤ j ∧ j < i + l.length ∧ l[j - i]? = some v
 | [], i, j, h => by cases h
 | a :: l, i, j, h => by
  simp only [eT] at h
  cases hv : v.eqb a
  ·rw [hv] at h
   obtain ⟨h1, h2, h3⟩ := rE v l (i + 1) j (by simpa using h)
   refine ⟨by omega, by simp; omega, ?_⟩
   rw [show j - i = (j - (i + 1)) + 1 by omega]
   simpa using h3
  ·rw [hv] at h
   have : i = j := by simpa using h
   subst this
   simp [(V.eqb_iff v a).1 hv]
structure DictAt (H : Zb) (o m : Nat) (L : DV) (Yu : Int) (vs : List V) : Prop where
 box : H[o]? = some (.box 100 [.int .i64 Yu, L, .map m])
 map : H[m]? = some (.map 0 0 (jJ vs 0))
 row : (vs = [] ∧ L = .nils) ∨ ∃ r g, L = .row r g 0 vs.length false ∧ H[r]? = some (.row 34 4 g (vs.map V.d))
theorem Kx (n : Int) (h : Zb) : E X 39 [.int .i64 n] h = some (.ref (h.length + 1) 0, h ++ [.map 0 0 [], .box 100 [.int .i64 (if (if n < 0 then 0 else n) > 4096 then 4096 else (if n < 0 then 0 else n)), .nils, .map h.length]]) := by
 rw [ZO (X := X) _ JN _ rfl rfl]; unfold JN; exact MA trivial
theorem hle {H : Zb} {o : Nat} {x : HO} (h : H[o]? = some x) (l : Zb) : (H ++ l)[o]? = some x := by
 rw [List.getElem?_append_left (List.getElem?_eq_some_iff.1 h).1]; exact h
theorem DictAt.len {H : Zb} {o m : Nat} {L : DV} {Yu : Int} {vs : List V} (hd : DictAt H o m L Yu vs) (l : Zb) : vw (H ++ l) 4 L = some (vs.map V.d) := by
 rcases hd.row with ⟨rfl, rfl⟩ | ⟨r, g, rfl, e2⟩
 ·rfl
 ·simp [vw, hle e2 l, List.take_of_length_le]
theorem DictAt.len0 {H : Zb} {o m : Nat} {L : DV} {Yu : Int} {vs : List V} (hd : DictAt H o m L Yu vs) : vw H 4 L = some (vs.map V.d) := by
 have := hd.len []
 simpa using this
theorem Ed {H : Zb} {o m : Nat} {L : DV} {Yu : Int} {vs : List V} (hd : DictAt H o m L Yu vs) : E X 66 [.ref o 0] H = some (.int .i64 vs.length, H) := by
 have e1 := hd.box
 have e2 := hd.len0
 rw [ZO (X := X) _ JE _ rfl rfl]; unfold JE; exact rg (cC @e1 @e2)
theorem yj {H : Zb} {o m : Nat} {L : DV} {Yu : Int} {vs : List V} (hd : DictAt H o m L Yu vs) (v : V) : E X 65 [.ref o 0, v.d] H = some (.tup [.int .i64 ((eT v vs 0).getD 0 : Nat), .bool (eT v vs 0).isSome], H) := by
 have e1 := hle hd.box
 have e2 := hle hd.map
 have e3 := qO v vs 0
 cases hf : eT v vs 0
 ·rw [ZO (X := X) _ BS _ rfl rfl]; unfold BS; exact GQ (mh @e1 @e2 @e3 @qU @hf)
 ·rw [ZO (X := X) _ BS _ rfl rfl]; unfold BS; exact GQ (mh @e1 @e2 @e3 @qU @hf)
theorem I0 (v : V) (h : Zb) : cM [v.d] h = some ([v.d], h) := rfl
theorem Np (v : V) : Wc 4 v.d := by simp [Wc, DV.cells, DV.one]
theorem JZ (v : V) : Nr v.d := by
 refine .agg ?_
 intro x hx
 simp at hx
 rcases hx with rfl | rfl | rfl | rfl <;> constructor
theorem CG {H : Zb} {o m : Nat} {L : DV} {Yu : Int} {vs : List V} (hd : DictAt H o m L Yu vs) (v : V) (hm : aG v = false) : E X 40 [.ref o 0, v.d] H = some (.tup [.int .i64 0, .int .i64 1], H) := by
 rw [ZO (X := X) _ rZ _ rfl rfl]; unfold rZ; exact rg (cC @pg @hm)
theorem DictAt.app {H : Zb} {o m : Nat} {L : DV} {Yu : Int} {vs : List V} (hd : DictAt H o m L Yu vs) (l : Zb) : DictAt (H ++ l) o m L Yu vs :=
 ⟨hle hd.box l, hle hd.map l, by
  rcases hd.row with h | ⟨r, g, h1, h2⟩
  ·exact .inl h
  ·exact .inr ⟨r, g, h1, hle h2 l⟩⟩
theorem CI {H : Zb} {o m : Nat} {L : DV} {Yu : Int} {vs : List V} (hd : DictAt H o m L Yu vs) (v : V) (hm : aG v = true) {j : Nat} (hf : eT v vs 0 = some j) : E X 40 [.ref o 0, v.d] H = some (.tup [.int .i64 j, .int .i64 0], H) := by
 have e1 := fun l => yj (hd.app l) v
 rw [ZO (X := X) _ rZ _ rfl rfl]; unfold rZ; exact rg (d8 @pg @hm @e1 @hf)
theorem yq {H : Zb} {o m : Nat} {L : DV} {Yu : Int} {vs : List V} (hd : DictAt H o m L Yu vs) (v : V) (hm : aG v = true) (hf : eT v vs 0 = none) (hl : Yu ≤ vs.length) : E X 40 [.ref o 0, v.d] H = some (.tup [.int .i64 0, .int .i64 4], H) := by
 have e1 := fun l => yj (hd.app l) v
 have e2 := hd.len
 have e3 := hle hd.box
 rw [ZO (X := X) _ rZ _ rfl rfl]; unfold rZ; exact rg (kE @pg @hm @e1 @hf @e2 @e3 @hl)
def rowOf : DV → Option Nat
 | .row r _ _ _ _ => some r
 | _ => none
theorem zS {H : Zb} {o m : Nat} {L : DV} {Yu : Int} {vs : List V} (hd : DictAt H o m L Yu vs) (v : V) (hm : aG v = true) (hf : eT v vs 0 = none) (hl : (vs.length : Int) < Yu) (hb : Yu ≤ 4096) :
 ∃ L' H', E X 40 [.ref o 0, v.d] H = some (.tup [.int .i64 vs.length, .int .i64 0], H') ∧ DictAt H' o m L' Yu (vs ++ [v]) ∧ H.length ≤ H'.length ∧
  (∀ i < H.length, i ≠ o → i ≠ m → rowOf L ≠ some i → H'[i]? = H[i]?) ∧ (rowOf L' = rowOf L ∨ ∃ r, rowOf L' = some r ∧ H.length ≤ r) := by
 have e1 := fun l => yj (hd.app l) v
 have e2 := hd.len
 have e3 := hle hd.box
 have e4 := hle hd.map
 have n1 : ¬ Yu ≤ vs.length := by omega
 have ho : o < H.length := (List.getElem?_eq_some_iff.1 hd.box).1
 have AL : m < H.length := (List.getElem?_eq_some_iff.1 hd.map).1
 have xo : o ≠ m := by
  rintro rfl
  have := hd.box.symm.trans hd.map
  simp at this
 have hput := tt v vs 0 hf
 rw [Nat.zero_add] at hput
 have w1 : IntKind.i64.wrap (vs.length : Int) = vs.length := wrap64 _ (by omega) (by omega)
 generalize iW : (H ++ [HO.box 34 [.int .i64 v.k, .int .i64 v.n, .str v.s, .bool v.t]]).set m (.map 0 0 (jJ (vs ++ [v]) 0)) = h1
 have l1 : h1.length = H.length + 1 := by rw [← iW]; simp
 have f1 : h1[o]? = some (.box 100 [.int .i64 Yu, L, .map m]) := by
  rw [← iW, List.getElem?_set_ne (Ne.symm xo)]; exact e3 [HO.box 34 [.int .i64 v.k, .int .i64 v.n, .str v.s, .bool v.t]]
 have f2 : h1[H.length]? = some (HO.box 34 [.int .i64 v.k, .int .i64 v.n, .str v.s, .bool v.t]) := by
  rw [← iW, List.getElem?_set_ne (by omega)]; simp
 have f3 : vw h1 4 L = some (vs.map V.d) := by
  rcases hd.row with ⟨rfl, rfl⟩ | ⟨r, g, rfl, e⟩
  ·rfl
  ·have : r ≠ m := by
    rintro rfl
    have := e.symm.trans hd.map
    simp at this
   have : h1[r]? = some (.row 34 4 g (vs.map V.d)) := by
    rw [← iW, List.getElem?_set_ne (Ne.symm this)]; exact hle e [HO.box 34 [.int .i64 v.k, .int .i64 v.n, .str v.s, .bool v.t]]
   simp [vw, this, List.take_of_length_le]
 have fx : ∀ i < H.length, i ≠ m → h1[i]? = H[i]? := fun i hi hne => by
  rw [← iW, List.getElem?_set_ne (Ne.symm hne), List.getElem?_append_left hi]
 obtain ⟨L', h2, hap, a1, a2, a3, a4, a5⟩ : ∃ L' h2, aX h1 34 4 40 L (vs.map V.d) [v.d] = some (L', h2) ∧ h1.length ≤ h2.length ∧ (∀ i < h1.length, rowOf L ≠ some i → h2[i]? = h1[i]?) ∧ (rowOf L' = rowOf L ∨ ∃ r, rowOf L' = some r ∧ h1.length ≤ r) ∧ (∃ r g, L' = .row r g 0 (vs.length + 1) false ∧ h2[r]? = some (.row 34 4 g ((vs ++ [v]).map V.d))) ∧ rowOf L' ≠ some o := by
  have hle' : ((vs.map V.d).length + [v.d].length) * 40 ≤ 140737488355328 := by simp; omega
  rcases hd.row with ⟨rfl, rfl⟩ | ⟨r, g, rfl, e⟩
  ·refine ⟨.row h1.length 0 0 1 false, h1 ++ [.row 34 4 0 [v.d]], ?_, by simp, fun i hi _ => List.getElem?_append_left hi, .inr ⟨_, rfl, Nat.le_refl _⟩, ⟨h1.length, 0, rfl, by simp⟩, ?_⟩
   ·simp [aX]
   ·simp only [rowOf]; intro h; injection h with h; omega
  ·have N0 : r ≠ m := by
    rintro rfl
    have := e.symm.trans hd.map
    simp at this
   have hro : r ≠ o := by
    rintro rfl
    have := e.symm.trans hd.box
    simp at this
   have er : h1[r]? = some (.row 34 4 g (vs.map V.d)) := by
    rw [← iW, List.getElem?_set_ne (Ne.symm N0)]; exact hle e [HO.box 34 [.int .i64 v.k, .int .i64 v.n, .str v.s, .bool v.t]]
   have hr : r < h1.length := (List.getElem?_eq_some_iff.1 er).1
   refine ⟨.row r (g + 1) 0 (vs.length + 1) false, h1.set r (.row 34 4 (g + 1) (vs.map V.d ++ [v.d])), ?_, by simp, ?_, .inl rfl, ⟨r, g + 1, rfl, ?_⟩, ?_⟩
   ·simp only [aX, if_pos hle', er]
    simp
   ·intro i hi hne
    refine List.getElem?_set_ne ?_
    rintro rfl
    exact hne rfl
   ·rw [List.getElem?_set_self hr]; simp
   ·simp only [rowOf]; intro h; injection h with h; exact hro h
 have g1 : h2[o]? = some (.box 100 [.int .i64 Yu, L, .map m]) := by
  rw [a2 o (by omega) ?_]
  ·exact f1
  ·intro hr
   rcases hd.row with ⟨rfl, rfl⟩ | ⟨r, g, rfl, e⟩
   ·cases hr
   ·injection hr with hr
    subst hr
    have := e.symm.trans hd.box
    simp at this
 generalize hh3 : h2.set o (.box 100 [.int .i64 Yu, L', .map m]) = h3
 have k1 : h3[o]? = some (.box 100 [.int .i64 Yu, L', .map m]) := by
  rw [← hh3]; exact List.getElem?_set_self (by omega)
 have kx : ∀ i, i ≠ o → h3[i]? = h2[i]? := fun i hi => by rw [← hh3, List.getElem?_set_ne (Ne.symm hi)]
 have AK : rowOf L ≠ some m := by
  intro hr
  rcases hd.row with ⟨rfl, rfl⟩ | ⟨r, g, rfl, e⟩
  ·cases hr
  ·injection hr with hr
   subst hr
   have := e.symm.trans hd.map
   simp at this
 have hD : DictAt h3 o m L' Yu (vs ++ [v]) := by
  refine ⟨k1, ?_, .inr ?_⟩
  ·rw [kx m (Ne.symm xo), a2 m (by omega) AK, ← iW, List.getElem?_set_self (by simp; omega)]
  ·obtain ⟨r, g, gM, h2'⟩ := a4
   refine ⟨r, g, by rw [gM]; simp, ?_⟩
   rw [kx r ?_]
   ·exact h2'
   ·rintro rfl
    exact a5 (by rw [gM]; rfl)
 have k3 := hD.len0
 refine ⟨L', h3, ?_, hD, ?_, ?_, ?_⟩
 ·have q1 := I0 v
  have q2 := Np v
  have q3 := JZ v
  have q4 : vw h1 4 (.list 4 [v.d] true) = some [v.d] := rfl
  rw [ZO (X := X) _ rZ _ rfl rfl]; unfold rZ
  have q6 : (vs.length : Int) + 1 - 1 = vs.length := by omega
  refine My (lm @pg @hm @e1 @hf @e2 @e3 @n1 @e4 @hput @iW @qU @aS) ?_
  obtain ⟨rr, gg, hL', Pe⟩ := a4
  subst hL'
  have q8 : h3.take H.length ≠ H := by
   intro hq
   have hl' : ∀ (l : List V) (i : Nat), (jJ l i).length = l.length := by
    intro l; induction l with
    | nil => intro i; rfl
    | cons a l ih => intro i; simp [jJ, ih]
   have h9 := hd.map
   rw [← hq, List.getElem?_take_of_lt AL, hD.map] at h9
   simp only [Option.some.injEq, HO.map.injEq, true_and] at h9
   have h10 := congrArg List.length h9
   rw [hl', hl'] at h10
   simp at h10
  rw [Zs (by simp [go_sem, f1, f2, f3, q1, q2, q3, q4, hap, g1, hh3, aJ]; exact ⟨rfl, rfl⟩)]
  rw [Zs (by simp [go_sem, k1, k3, w1, q6]; exact ⟨rfl, rfl⟩)]
  rw [Yl]
  exact NJ trivial
 ·rw [← hh3]; simp; omega
 ·intro i hi gM h2' II
  rw [kx i gM, a2 i (by omega) II, fx i hi h2']
 ·rcases a3 with h | ⟨r, h, h'⟩
  ·exact .inl h
  ·exact .inr ⟨r, h, by omega⟩
def bs (p : Nat → Bool) (lo hi : Nat) : Nat := if h : lo < hi then (if p ((lo + hi) / 2) then bs p lo ((lo + hi) / 2) else bs p ((lo + hi) / 2 + 1) hi) else lo
termination_by hi - lo
theorem Kc (x v : V) {h : Zb} {q : Nat} {t : Nat} (hq : h[q]? = some (.box t v.d.cells)) : E X 88 [x.d, .ref q 0] h = some (.bool (decide (ord x v ≥ 0)), h) := by
 have e1 := hle hq
 rw [ZO (X := X) _ Jr _ rfl rfl]; unfold Jr; exact rg (cC @e1 @bC)
theorem G6 {h : Zb} {L c : DV} {f : Nat} {xs : List V} {p : V → Bool} (hL : vw h 4 L = some (xs.map V.d)) (hb : xs.length ≤ 1000000) (hf : ∀ x ∈ xs, E X f [x.d, c] h = some (.bool (p x), h)) :
 ∀ (n lo hi : Nat), hi - lo ≤ n → lo ≤ hi → hi ≤ xs.length → ∃ e', C X (.loop ko) [(0, L), (1, .func f [] [c]), (5, .int .i64 lo), (6, .int .i64 hi)] h = some (.exit 0, e', h) ∧ lk e' 5 = .int .i64 (bs (fun i => (xs[i]?.map p).getD false) lo hi : Nat) := by
 intro n
 induction n with
 | zero =>
  intro lo hi h1 h2 h3
  obtain rfl : lo = hi := by omega
  rw [Zx]
  unfold ko
  refine rn trivial ?_
  rw [ZS]
  refine ⟨_, rfl, ?_⟩
  rw [bs]
  simp [lk, Za]
 | succ n ih =>
  intro lo hi h1 h2 h3
  by_cases hlt : lo < hi
  ·obtain ⟨m, hm⟩ : ∃ m, m = (lo + hi) / 2 := ⟨_, rfl⟩
   have w0 : (lo : Int) < hi := by omega
   have w1 : IntKind.i64.wrap ((lo : Int) + hi) = (lo : Int) + hi := wrap64 _ (by omega) (by omega)
   have w2 : Int.tdiv ((lo : Int) + hi) 2 = m := by rw [Int.tdiv_eq_ediv_of_nonneg (by omega)]; omega
   have w3 : IntKind.i64.wrap (m : Int) = m := wrap64 _ (by omega) (by omega)
   have w4 : IntKind.i64.wrap ((m : Int) + 1) = ((m + 1 : Nat) : Int) := by rw [wrap64 _ (by omega) (by omega)]; rfl
   have w5 : (m : Int) < xs.length := by omega
   have w6 : m < xs.length := by omega
   have gA : xs[m]? = some xs[m] := List.getElem?_eq_getElem (by omega)
   have hp := hf xs[m] (List.getElem_mem _)
   cases hx : p xs[m]
   ·have hn : C X ko [(0, L), (1, .func f [] [c]), (5, .int .i64 lo), (6, .int .i64 hi)] h = some (.norm, [(0, L), (1, .func f [] [c]), (5, .int .i64 (m + 1 : Nat)), (6, .int .i64 hi)], h) := by
     unfold ko
     rw [hx] at hp
     refine aT (jC @w0 @w1 @w2 @w3 @w4 @w5 @w6 @hL @hp) ?_
     simp [Za, lk]
    rw [Zx, hn, ZZ]
    obtain ⟨e', h4, h5⟩ := ih (m + 1) hi (by omega) (by omega) h3
    refine ⟨e', h4, h5.trans ?_⟩
    rw [bs.eq_1 _ lo hi, dif_pos hlt, ← hm, gA]
    simp [hx]
   ·have hn : C X ko [(0, L), (1, .func f [] [c]), (5, .int .i64 lo), (6, .int .i64 hi)] h = some (.norm, [(0, L), (1, .func f [] [c]), (5, .int .i64 lo), (6, .int .i64 m)], h) := by
     unfold ko
     rw [hx] at hp
     refine aT (jC @w0 @w1 @w2 @w3 @w4 @w5 @w6 @hL @hp) ?_
     simp [Za, lk]
    rw [Zx, hn, ZZ]
    obtain ⟨e', h4, h5⟩ := ih lo m (by omega) (by omega) (by omega)
    refine ⟨e', h4, h5.trans ?_⟩
    rw [bs.eq_1 _ lo hi, dif_pos hlt, ← hm, gA]
    simp [hx]
  ·exact ih lo hi (by omega) h2 h3
theorem Ke {h : Zb} {L c : DV} {f : Nat} {xs : List V} {p : V → Bool} (hL : vw h 4 L = some (xs.map V.d)) (hb : xs.length ≤ 1000000) (hf : ∀ x ∈ xs, E X f [x.d, c] h = some (.bool (p x), h)) :
 E X 87 [L, .func f [] [c]] h = some (.int .i64 (bs (fun i => (xs[i]?.map p).getD false) 0 xs.length : Nat), h) := by
 obtain ⟨e', h1, h2⟩ := G6 hL hb hf xs.length 0 xs.length (by omega) (by omega) (by omega)
 rw [ZO (X := X) _ Js _ rfl rfl]; unfold Js
 refine rn @hL ?_
 simp [Za, lk]
 simp at h1
 rw [h1]
 refine rn @h2 ?_
 exact re @h2
instance : Inhabited V := ⟨V0⟩
def lt (a b : V) : Bool := decide (ord a b < 0)
def hp (H : Zb) (r g : Nat) (d : Array V) : Zb := H.set r (.row 34 4 g (d.toList.map V.d))
abbrev au (r g n : Nat) : DV := .row r g 0 n false
def el (d : Array V) (i : Nat) : V := d[i]!
def iG (d : Array V) (i : Nat) (v : V) : Array V := d.setIfInBounds i v
theorem aW (d : Array V) (i : Nat) (v : V) : (iG d i v).size = d.size := by simp [iG]
theorem cW (d : Array V) (i j : Nat) : Go.Sort.swp d i j = iG (iG d i (el d j)) j (el d i) := rfl
theorem wT (d : Array V) (i : Nat) (hi : i < d.size) : d.toList[i]? = some (el d i) := by
 rw [el, getElem!_pos d i hi, Array.getElem?_toList, Array.getElem?_eq_getElem hi]
theorem rf {H : Zb} {r : Nat} (g : Nat) (d : Array V) (hr : r < H.length) : vw (hp H r g d) 4 (au r g d.size) = some (d.toList.map V.d) := by
 simp [vw, hp, List.getElem?_set_self hr, List.take_of_length_le]
theorem yL {H : Zb} {r : Nat} (g : Nat) (d : Array V) (hr : r < H.length) {i : Nat} (hi : i < d.size) : ay (hp H r g d) true 4 (.elem (au r g d.size) 4 i 0) = some (el d i).d := by
 rw [ay, rf g d hr]
 simp only [List.getElem?_map, wT d i hi, Option.map_some]
 simp [Yv, DV.cells]
theorem yK {H : Zb} {r : Nat} (g : Nat) (d : Array V) (hr : r < H.length) {i : Nat} (hi : i < d.size) (v : V) : stx (hp H r g d) 4 (.elem (au r g d.size) 4 i 0) v.d = some (hp H r g (iG d i v)) := by
 have h1 : (hp H r g d)[r]? = some (.row 34 4 g (d.toList.map V.d)) := by simp [hp, List.getElem?_set_self hr]
 have h2 : (d.toList.map V.d)[i]? = some (el d i).d := by rw [List.getElem?_map, wT d i hi]; rfl
 rw [stx, if_pos (by simp [DV.cells, DV.one])]
 simp only [h1]
 rw [if_pos (by simp [hi])]
 simp only [Nat.zero_add, h2]
 simp [mW, DV.cells, splice, hp, iG]
theorem swp_size (d : Array V) (i j : Nat) : (Go.Sort.swp d i j).size = d.size := by simp [Go.Sort.swp]
theorem jI (a : Nat) : ∀ (j : Nat) (d : Array V), (Go.Sort.insInner lt a j d).size = d.size
 | 0, d => rfl
 | j + 1, d => by
  rw [Go.Sort.insInner]
  split
  ·rw [jI a j, swp_size]
  ·rfl
theorem CW {H : Zb} {r g n a b i : Nat} (hr : r < H.length) (hn : n ≤ 1000000) (hb : b ≤ n) (hi : i < n) :
 ∀ (j : Nat) (d : Array V), d.size = n → j < n → ∃ x y, C X (.loop ki) [(0, au r g n), (1, .int .i64 a), (2, .int .i64 b), (3, .func 69 [] []), (8, .int .i64 i), (9, .int .i64 j)] (hp H r g d) =
  some (.exit 2, [(0, au r g n), (1, .int .i64 a), (2, .int .i64 b), (3, .func 69 [] []), (8, .int .i64 i), (9, x), (34, y)], hp H r g (Go.Sort.insInner lt a j d)) := by
 intro j
 induction j with
 | zero =>
  intro d hd hj
  have w0 : ¬ ((a : Int) < 0) := by omega
  rw [Zx]
  unfold ki
  refine rn @w0 ?_
  rw [ZS]
  exact ⟨_, _, by simp [Za, lk, Go.Sort.insInner]; exact ⟨rfl, rfl⟩⟩
 | succ j ih =>
  intro d hd hj
  obtain ⟨J, hJ⟩ : ∃ J, J = j + 1 := ⟨_, rfl⟩
  rw [← hJ]
  have OE : Go.Sort.insInner lt a J d = if J > a && lt (el d J) (el d j) then Go.Sort.insInner lt a j (Go.Sort.swp d J j) else d := by
   subst hJ; rw [Go.Sort.insInner]; rfl
  rw [OE]
  by_cases hja : a < J
  ·have w0 : (a : Int) < (J : Int) := by omega
   have w1 : IntKind.i64.wrap ((J : Int) - 1) = j := wr
   have w2 : j < d.size := by omega
   have w3 : J < d.size := by omega
   have w5 : j < n := by omega
   have w6 : J < n := by omega
   have r0 := rf (H := H) g d hr
   have r1 := yL (H := H) g d hr w2
   have r2 := yL (H := H) g d hr w3
   rw [hd] at r0 r1 r2
   cases hlt : lt (el d J) (el d j)
   ·have w4 : ¬ (ord (el d J) (el d j) < 0) := by simpa [lt] using hlt
    rw [Zx]
    unfold ki
    refine rn (mU @hja @w0 @w1 @w2 @w3 @w5 @w6 @hd @r0 @r1 @r2 @bC @w4) ?_
    rw [ZS]
    exact ⟨_, _, by simp [Za, lk]; exact ⟨rfl, rfl⟩⟩
   ·have w4 : ord (el d J) (el d j) < 0 := by simpa [lt] using hlt
    have q1 := yK (H := H) g d hr w3 (el d j)
    have q2 := yK (H := H) g (iG d J (el d j)) hr (i := j) (by simpa [iG] using w2) (el d J)
    rw [hd] at q1
    have hs : (iG d J (el d j)).size = n := by simp [hd, iG]
    rw [hs] at q2
    have r3 := rf (H := H) g (iG d J (el d j)) hr
    rw [hs] at r3
    have hn' : C X ki [(0, au r g n), (1, .int .i64 a), (2, .int .i64 b), (3, .func 69 [] []), (8, .int .i64 i), (9, .int .i64 J)] (hp H r g d) = some (.norm, [(0, au r g n), (1, .int .i64 a), (2, .int .i64 b), (3, .func 69 [] []), (8, .int .i64 i), (9, .int .i64 j)], hp H r g (Go.Sort.swp d J j)) := by
     unfold ki
     rw [cW]
     refine Mv (vM @hja @w0 @w1 @w2 @w3 @w5 @w6 @hd @r0 @r3 @r1 @r2 @q1 @q2 @bC @w4) ?_
     simp [Za, lk]
    rw [Zx, hn', ZZ, if_pos (by simp [hja])]
    exact ih _ (by rw [swp_size, hd]) (by omega)
  ·have w0 : ¬ ((a : Int) < (J : Int)) := by omega
   rw [Zx]
   unfold ki
   refine rn (cC @hja @w0) ?_
   rw [ZS]
   exact ⟨_, _, by simp [Za, lk, hja]; exact ⟨rfl, rfl⟩⟩
theorem dW (H : Zb) (r g : Nat) (d : Array V) : (hp H r g d).length = H.length := by simp [hp]
theorem mg (H : Zb) (r g : Nat) (d d' : Array V) : fin (hp H r g d) (hp H r g d') [] = (.tup [], hp H r g d') := by
 have h1 : (hp H r g d').take (hp H r g d).length = hp H r g d' := by
  rw [dW, ← dW H r g d']; exact List.take_length
 rw [fin, h1]
 ·split
  ·rename_i h2; simp only [bH]; rw [h2]
  ·rfl
 ·intro d h; cases h
theorem nz (a b : Nat) (i : Nat) (d : Array V) : (Go.Sort.insOuter lt a b i d).size = d.size := by
 rw [Go.Sort.insOuter]
 split
 ·rw [nz a b (i + 1), jI]
 ·rfl
termination_by b - i
theorem CX {H : Zb} {r g n a b : Nat} (hr : r < H.length) (hn : n ≤ 1000000) (hb : b ≤ n) :
 ∀ (k i : Nat) (d : Array V), b - i ≤ k → d.size = n → i ≤ n + 1 → ∃ e', C X (.loop nV) [(0, au r g n), (1, .int .i64 a), (2, .int .i64 b), (3, .func 69 [] []), (8, .int .i64 i)] (hp H r g d) =
  some (.exit 0, e', hp H r g (Go.Sort.insOuter lt a b i d)) := by
 intro k
 induction k with
 | zero =>
  intro i d hk hd hi
  have w0 : ¬ ((i : Int) < b) := by omega
  have w1 : ¬ i < b := by omega
  rw [Zx]
  unfold nV
  refine rn (cC @w0 @w1) ?_
  rw [ZS, Go.Sort.insOuter, if_neg w1]
  exact ⟨_, rfl⟩
 | succ k ih =>
  intro i d hk hd hi
  by_cases w1 : i < b
  ·have w0 : (i : Int) < b := by omega
   have w2 : IntKind.i64.wrap ((i : Int) + 1) = ((i + 1 : Nat) : Int) := by rw [wrap64 _ (by omega) (by omega)]; rfl
   obtain ⟨x, y, hin⟩ := CW (H := H) (r := r) (g := g) (n := n) (a := a) (b := b) (i := i) hr hn hb (by omega) i d hd (by omega)
   have hs : C X nV [(0, au r g n), (1, .int .i64 a), (2, .int .i64 b), (3, .func 69 [] []), (8, .int .i64 i)] (hp H r g d) = some (.norm, [(0, au r g n), (1, .int .i64 a), (2, .int .i64 b), (3, .func 69 [] []), (8, .int .i64 (i + 1 : Nat))], hp H r g (Go.Sort.insInner lt a i d)) := by
    unfold nV
    refine rn (ew @w0 @w1 @w2) ?_
    refine aD ?_
    rw [hin]
    refine rn (ew @w0 @w1 @w2) ?_
    simp [Za, lk]
   rw [Zx, hs, ZZ, Go.Sort.insOuter, if_pos w1]
   exact ih (i + 1) _ (by omega) (by rw [jI, hd]) (by omega)
  ·exact ih i d (by omega) hd hi
theorem Kb {H : Zb} {r g n a b : Nat} (hr : r < H.length) (hn : n ≤ 1000000) (hb : b ≤ n) (ha : a ≤ n) (d : Array V) (hd : d.size = n) :
 E X 92 [au r g n, .int .i64 a, .int .i64 b, .func 69 [] []] (hp H r g d) = some (.tup [], hp H r g (Go.Sort.insertionSort lt d a b)) := by
 rw [Go.Sort.insertionSort]
 obtain ⟨A, hA⟩ : ∃ A, A = a + 1 := ⟨_, rfl⟩
 rw [← hA]
 have w2 : IntKind.i64.wrap ((a : Int) + 1) = (A : Int) := wr
 obtain ⟨e', hl⟩ := CX (H := H) (r := r) (g := g) (n := n) (a := a) (b := b) hr hn hb b A d (by omega) hd (by omega)
 rw [ZO (X := X) _ Jq _ rfl rfl]; unfold Jq
 refine rn @w2 ?_
 refine aD ?_
 rw [hl]
 refine rn @w2 ?_
 simp [ZV, Yc, mg]
theorem Cj (xs : List V) : ∀ x ∈ xs.map V.d, Nr x := by
 intro x hx
 obtain ⟨v, _, rfl⟩ := List.mem_map.1 hx
 exact JZ v
def dX (n0 t sz : Nat) (h : Zb) (L : DV) (xs : List DV) : Prop :=
 (xs = [] ∧ L = .nils) ∨ ∃ r g, L = .row r g 0 xs.length false ∧ n0 ≤ r ∧ h[r]? = some (.row t sz g xs)
theorem dX.vw {n0 t sz : Nat} {h : Zb} {L : DV} {xs : List DV} (hr : dX n0 t sz h L xs) : vw h sz L = some xs := by
 rcases hr with ⟨rfl, rfl⟩ | ⟨r, g, rfl, _, h2⟩
 ·rfl
 ·simp [Go.Proofs.YteekbciaggmfgaaDoor.vw, h2]
theorem dX.ext {n0 t sz : Nat} {h : Zb} {L : DV} {xs : List DV} (hr : dX n0 t sz h L xs) (l : Zb) : dX n0 t sz (h ++ l) L xs := by
 rcases hr with h1 | ⟨r, g, h1, h2, h3⟩
 ·exact .inl h1
 ·exact .inr ⟨r, g, h1, h2, hle h3 l⟩
theorem dX.app {n0 t sz Jk : Nat} {h : Zb} {L : DV} {xs ys : List DV} (hr : dX n0 t sz h L xs) (hn : n0 ≤ h.length) (hy : ys ≠ []) (hb : (xs.length + ys.length) * Jk ≤ 140737488355328) :
 ∃ L' h', aX h t sz Jk L xs ys = some (L', h') ∧ dX n0 t sz h' L' (xs ++ ys) ∧ h'.take n0 = h.take n0 ∧ h.length ≤ h'.length := by
 rcases hr with ⟨rfl, rfl⟩ | ⟨r, g, rfl, h2, h3⟩
 ·refine ⟨.row h.length 0 0 ys.length false, h ++ [.row t sz 0 ys], ?_, .inr ⟨h.length, 0, by simp, hn, by simp⟩, ?_, by simp⟩
  ·rw [aX, if_neg hy, if_pos hb]
  ·rw [List.take_append_of_le_length hn]
 ·have hl := (List.getElem?_eq_some_iff.1 h3).1
  refine ⟨.row r (g + 1) 0 (xs.length + ys.length) false, h.set r (.row t sz (g + 1) (xs ++ ys)), ?_, .inr ⟨r, g + 1, by simp, h2, List.getElem?_set_self hl⟩, ?_, by simp⟩
  ·rw [aX, if_neg hy, if_pos hb]
   simp [h3]
  ·rw [List.take_set_of_le h2]
theorem Ko {h : Zb} {r g n : Nat} {xs : List V} (hx : xs ≠ []) (hv : vw h 4 (.row r g 0 n false) = some (xs.map V.d)) (hb : xs.length ≤ 1000000) : E X 67 [.row r g 0 n false] h = some (.fresh 34 4 (xs.map V.d), h) := by
 have q1 : cM ([] : List DV) h = some ([], h) := rfl
 have q2 : vw h 4 (.list 4 [] true) = some [] := rfl
 have q3 := Cj xs
 have q4 : aX h 34 4 40 (.list 4 [] true) [] (xs.map V.d) = some (.row h.length 0 0 xs.length false, h ++ [.row 34 4 0 (xs.map V.d)]) := by
  rw [aX, if_neg (by simpa using hx), if_pos (by simp; omega)]; simp
 rw [ZO (X := X) _ JD _ rfl rfl]; unfold JD; refine Mx (d8 @q1 @q2 @hv @q4) ?_; simp [Zw, ZV, Yc, go_sem, fin, aV, aO, bH, cL, dD, q1, q2, hv, q4, aJ]
 rw [if_pos ⟨rfl, by simp, q3⟩]
def place (xs : List V) (v : V) : Nat := bs (fun i => (xs[i]?.map fun x => decide (ord x v ≥ 0)).getD false) 0 xs.length
theorem zo (p : Nat → Bool) (lo hi : Nat) (h : lo ≤ hi) : lo ≤ bs p lo hi ∧ bs p lo hi ≤ hi := by
 rw [bs]
 split
 ·split
  ·have := zo p lo ((lo + hi) / 2) (by omega); omega
  ·have := zo p ((lo + hi) / 2 + 1) hi (by omega); omega
 ·omega
termination_by hi - lo
theorem CO (xs : List V) (v : V) : place xs v ≤ xs.length := (zo _ _ _ (Nat.zero_le _)).2
def found (xs : List V) (v : V) : Bool := (xs[place xs v]?.map fun x => x.eqb v).getD false
theorem Kn {h : Zb} {L : DV} {xs : List V} (v : V) (hL : ∀ l, vw (h ++ l) 4 L = some (xs.map V.d)) (hb : xs.length ≤ 1000000) : E X 70 [L, v.d] h = some (.tup [.int .i64 (place xs v : Nat), .bool (found xs v)], h) := by
 have e1 : E X 87 [L, .func 88 [] [.ref h.length 0]] (h ++ [HO.box 34 [.int .i64 v.k, .int .i64 v.n, .str v.s, .bool v.t]]) = some (.int .i64 (place xs v : Nat), h ++ [HO.box 34 [.int .i64 v.k, .int .i64 v.n, .str v.s, .bool v.t]]) :=
  Ke (p := fun x => decide (ord x v ≥ 0)) (hL _) hb (fun x _ => Kc x v (t := 34) (by simp [DV.cells]))
 have hp := CO xs v
 by_cases hlt : place xs v < xs.length
 ·have w : found xs v = xs[place xs v].eqb v := by simp [found, List.getElem?_eq_getElem hlt]
  rw [ZO (X := X) _ BR _ rfl rfl]; unfold BR; exact Mz (d8 @e1 @hL @hlt @w)
 ·have w : found xs v = false := by simp [found, List.getElem?_eq_none (Nat.le_of_not_lt hlt)]
  rw [ZO (X := X) _ BR _ rfl rfl]; unfold BR; exact rg (d8 @e1 @hL @hlt @w)
def tab : ByteArray := ⟨#[0, 1, 2, 2, 3, 3, 3, 3, 4, 4, 4, 4, 4, 4, 4, 4, 5, 5, 5, 5, 5, 5, 5, 5, 5, 5, 5, 5, 5, 5, 5, 5, 6, 6, 6, 6, 6, 6, 6, 6, 6, 6, 6, 6, 6, 6, 6, 6, 6, 6, 6, 6, 6, 6, 6, 6, 6, 6, 6, 6, 6, 6, 6, 6, 7, 7, 7, 7, 7, 7, 7, 7, 7, 7, 7, 7, 7, 7, 7, 7, 7, 7, 7, 7, 7, 7, 7, 7, 7, 7, 7, 7, 7, 7, 7, 7, 7, 7, 7, 7, 7, 7, 7, 7, 7, 7, 7, 7, 7, 7, 7, 7, 7, 7, 7, 7, 7, 7, 7, 7, 7, 7, 7, 7, 7, 7, 7, 7, 8, 8, 8, 8, 8, 8, 8, 8, 8, 8, 8, 8, 8, 8, 8, 8, 8, 8, 8, 8, 8, 8, 8, 8, 8, 8, 8, 8, 8, 8, 8, 8, 8, 8, 8, 8, 8, 8, 8, 8, 8, 8, 8, 8, 8, 8, 8, 8, 8, 8, 8, 8, 8, 8, 8, 8, 8, 8, 8, 8, 8, 8, 8, 8, 8, 8, 8, 8, 8, 8, 8, 8, 8, 8, 8, 8, 8, 8, 8, 8, 8, 8, 8, 8, 8, 8, 8, 8, 8, 8, 8, 8, 8, 8, 8, 8, 8, 8, 8, 8, 8, 8, 8, 8, 8, 8, 8, 8, 8, 8, 8, 8, 8, 8, 8, 8, 8, 8, 8, 8, 8, 8, 8, 8, 8, 8, 8, 8]⟩
def G0 (T : ByteArray) : XC := .seq (.reg [⟨some 2, .mov (.c (.int .i64 0)), none, false⟩] [0, 2]) (.seq (.seq (.reg [⟨some 3, .mov (.t 0), none, false⟩, ⟨some 4, .bin .geq (.t 3) (.c (.int .u64 4294967296)), none, false⟩] [0, 2, 4]) (.cond (.t 4) (.seq (.reg [⟨some 5, .mov (.t 0), none, false⟩, ⟨some 6, .bin .shr (.t 5) (.c (.int .u64 32)), none, false⟩, ⟨some 0, .mov (.t 6), none, false⟩] [0]) (.reg [⟨some 2, .mov (.c (.int .i64 32)), none, false⟩] [0, 2])) .skip)) (.seq (.seq (.reg [⟨some 7, .mov (.t 0), none, false⟩, ⟨some 8, .bin .geq (.t 7) (.c (.int .u64 65536)), none, false⟩] [0, 2, 8]) (.cond (.t 8) (.seq (.reg [⟨some 9, .mov (.t 0), none, false⟩, ⟨some 10, .bin .shr (.t 9) (.c (.int .u64 16)), none, false⟩, ⟨some 0, .mov (.t 10), none, false⟩] [0, 2]) (.reg [⟨some 11, .mov (.t 2), none, false⟩, ⟨some 12, .bin .add (.t 11) (.c (.int .i64 16)), none, false⟩, ⟨some 2, .mov (.t 12), none, false⟩] [0, 2])) .skip)) (.seq (.seq (.reg [⟨some 13, .mov (.t 0), none, false⟩, ⟨some 14, .bin .geq (.t 13) (.c (.int .u64 256)), none, false⟩] [0, 2, 14]) (.cond (.t 14) (.seq (.reg [⟨some 15, .mov (.t 0), none, false⟩, ⟨some 16, .bin .shr (.t 15) (.c (.int .u64 8)), none, false⟩, ⟨some 0, .mov (.t 16), none, false⟩] [0, 2]) (.reg [⟨some 17, .mov (.t 2), none, false⟩, ⟨some 18, .bin .add (.t 17) (.c (.int .i64 8)), none, false⟩, ⟨some 2, .mov (.t 18), none, false⟩] [0, 2])) .skip)) (.seq (.reg [⟨some 19, .mov (.t 2), none, false⟩, ⟨some 20, .mov (.t 0), none, false⟩, ⟨some 21, .toint .u8 (.t 20), none, false⟩, ⟨some 22, .idxs (.c (.str T)) (.t 21), none, false⟩, ⟨some 23, .toint .i64 (.t 22), none, false⟩, ⟨some 24, .bin .add (.t 19) (.t 23), none, false⟩, ⟨some 2, .mov (.t 24), none, false⟩] [2]) .ret))))
theorem F5 : ∀ n < 256, tab.data.toList[n]? = some (UInt8.ofNat (Go.Sort.bitsLen n)) := by
 have h : (List.range 256).all (fun n => tab.data.toList[n]? == some (UInt8.ofNat (Go.Sort.bitsLen n))) = true := by decide +kernel
 intro n hn
 simpa using List.all_eq_true.1 h n (List.mem_range.2 hn)
theorem ni : ∀ n < 256, Go.Sort.bitsLen n < 9 := by
 have h : (List.range 256).all (fun n => decide (Go.Sort.bitsLen n < 9)) = true := by decide +kernel
 intro n hn
 simpa using List.all_eq_true.1 h n (List.mem_range.2 hn)
theorem yg (n : Nat) (hn : n < 256) (h : Zb) : E X 79 [.int .u64 n] h = some (.int .i64 (Go.Sort.bitsLen n : Nat), h) := by
 have w1 : ¬ ((4294967296 : Int) ≤ n) := by omega
 have w2 : ¬ ((65536 : Int) ≤ n) := by omega
 have w3 : ¬ ((256 : Int) ≤ n) := by omega
 have t1 := F5 n hn
 have t2 := ni n hn
 have w4 : IntKind.u8.wrap (n : Int) = n := by simp [IntKind.wrap, IntKind.bits, IntKind.signed]; omega
 have w5 : IntKind.i64.wrap ((UInt8.ofNat (Go.Sort.bitsLen n)).toNat : Int) = (Go.Sort.bitsLen n : Nat) := by
  rw [UInt8.toNat_ofNat', Nat.mod_eq_of_lt (by omega)]; exact wrap64 _ (by omega) (by omega)
 have w6 : IntKind.i64.wrap (Go.Sort.bitsLen n : Int) = Go.Sort.bitsLen n := wrap64 _ (by omega) (by omega)
 have w7 : Go.Sort.bitsLen n % 256 = Go.Sort.bitsLen n := by omega
 have t3 : tab.data[n]? = some (UInt8.ofNat (Go.Sort.bitsLen n)) := by rw [← Array.getElem?_toList]; exact t1
 rw [ZO (X := X) _ Me _ rfl rfl]
 change ends _ _ (C X (G0 tab) _ _) = _
 unfold G0
 refine rn (gN @w1 @w2 @w3 @t3 @w4 @w5 @w6 @w7) ?_
 exact re (gN @w1 @w2 @w3 @t3 @w4 @w5 @w6 @w7)
theorem Eb (n : Nat) (hn : n < 256) (h : Zb) : E X 84 [.int .u64 n] h = some (.int .i64 (Go.Sort.bitsLen n : Nat), h) := by
 have e := yg n hn
 rw [ZO (X := X) _ Jt _ rfl rfl]; unfold Jt; exact rg @e
def toS (ys vs : List V) : List DV := vs.map fun v => .int .i64 (place ys v : Nat)
theorem Ht {H2 : Zb} {L RY : DV} {vs ys : List V} (hL : ∀ l, vw (H2 ++ l) 4 L = some (vs.map V.d)) (hY : ∀ l, vw (H2 ++ l) 4 RY = some (ys.map V.d)) (hb : vs.length ≤ 1000000) (hby : ys.length ≤ 1000000) :
 ∀ (k i : Nat) (T : DV) (l : Zb), vs.length - i ≤ k → i ≤ vs.length → dX H2.length 3 1 (H2 ++ l) T (toS ys (vs.take i)) →
  ∃ e' T' l', C X (.loop ol) [(4, RY), (5, T), (23, L), (24, .int .i64 vs.length), (25, .int .i64 i)] (H2 ++ l) = some (.exit 0, e', H2 ++ l') ∧ lk e' 4 = RY ∧ lk e' 5 = T' ∧ dX H2.length 3 1 (H2 ++ l') T' (toS ys vs) := by
 intro k
 induction k with
 | zero =>
  intro i T l hk hi hg
  have w0 : ¬ (i < vs.length) := by omega
  obtain rfl : i = vs.length := by omega
  rw [List.take_length] at hg
  rw [Zx]
  unfold ol
  refine rn @w0 ?_
  rw [ZS]
  exact ⟨_, _, _, rfl, by simp [Za, lk], by simp [Za, lk], hg⟩
 | succ k ih =>
  intro i T l hk hi hg
  by_cases w0 : i < vs.length
  ·obtain ⟨I, hI⟩ : ∃ I, I = i + 1 := ⟨_, rfl⟩
   have w1 : IntKind.i64.wrap ((i : Int) + 1) = (I : Int) := wr
   obtain ⟨v, hv⟩ : ∃ v, v = vs[i] := ⟨_, rfl⟩
   have iT : vs[i]? = some v := by rw [hv]; exact List.getElem?_eq_getElem w0
   have e1 : ∀ q, E X 70 [RY, v.d] (H2 ++ q) = some (.tup [.int .i64 (place ys v : Nat), .bool (found ys v)], H2 ++ q) := fun q => Kn v (fun l => by rw [List.append_assoc]; exact hY _) hby
   have hg2 := hg.ext [HO.box 34 [.int .i64 v.k, .int .i64 v.n, .str v.s, .bool v.t]]
   obtain ⟨T', h', a1, a2, a3, a4⟩ := hg2.app (Jk := 8) (ys := [.int .i64 (place ys v : Nat)]) (by simp) (by simp) (by simp [toS]; omega)
   obtain ⟨l', rfl⟩ : ∃ l', h' = H2 ++ l' := ⟨h'.drop H2.length, by
    have := List.take_append_drop H2.length h'
    rw [a3] at this
    rw [List.append_assoc, List.take_left] at this
    exact this.symm⟩
   have a5 := hg2.vw
   have O3 : dX H2.length 3 1 (H2 ++ l') T' (toS ys (vs.take I)) := by
    rw [hI, List.take_add_one, iT]; simpa [toS] using a2
   obtain ⟨e', T2, l2, c1, c2⟩ := ih I T' l' (by omega) (by omega) O3
   have q1 : ∀ q : Zb, cM [DV.int .i64 (place ys v : Nat)] q = some ([.int .i64 (place ys v : Nat)], q) := fun q => rfl
   have q2 : Wc 1 (DV.int .i64 (place ys v : Nat)) := by simp [Wc, DV.cells, DV.one]
   have q3 : Nr (DV.int .i64 (place ys v : Nat)) := .int _ _
   have q4 : ∀ q, vw q 1 (.list 1 [DV.int .i64 (place ys v : Nat)] true) = some [.int .i64 (place ys v : Nat)] := fun q => rfl
   rw [List.append_assoc] at a1 a5
   have hs : C X ol [(4, RY), (5, T), (23, L), (24, .int .i64 vs.length), (25, .int .i64 i)] (H2 ++ l) = some (.norm, [(4, RY), (5, T'), (23, L), (24, .int .i64 vs.length), (25, .int .i64 I)], H2 ++ l') := by
    unfold ol
    refine Mw (lm @w0 @w1 @hL @iT @e1 @q1 @q2 @q3 @q4 @a1 @a5 (Eq.symm hv)) ?_
    simp [Za, lk]
   exact ⟨e', T2, l2, by rw [Zx, hs, ZZ]; exact c1, c2⟩
  ·exact ih i T l (by omega) hi hg
theorem F4 {H : Zb} {g : Nat} (d : Array V) (x : HO) (he : x = .row 34 4 g (d.toList.map V.d)) : H ++ [x] = hp (H ++ [x]) H.length g d := by
 subst he
 simp [hp, ZK]
theorem y8 {H l : Zb} {ys : List V} {n : Nat} (hn : n = ys.length) {T : DV} {ts : List DV} (hT : dX (H.length + 1) 3 1 (H ++ [HO.row 34 4 0 (ys.map V.d)] ++ l) T ts) (ht : ts ≠ []) (hN : ∀ x ∈ ts, Nr x) :
 fin H (H ++ [HO.row 34 4 0 (ys.map V.d)] ++ l) [.row H.length 0 0 n false, T] = (.tup [.list 4 (ys.map V.d) false, .list 1 ts false], H) := by
 rcases hT with ⟨h1, _⟩ | ⟨r, g, rfl, h2, h3⟩
 ·exact absurd h1 ht
 have h4 : (H ++ [HO.row 34 4 0 (ys.map V.d)] ++ l)[H.length]? = some (HO.row 34 4 0 (ys.map V.d)) := by simp
 have h5 : ∀ x, ((H ++ [HO.row 34 4 0 (ys.map V.d)] ++ l).set H.length x)[r]? = some (.row 3 1 g ts) := fun x => by
  rw [List.getElem?_set_ne (by omega)]; exact h3
 have h6 : (H ++ [HO.row 34 4 0 (ys.map V.d)] ++ l).take H.length = H := by rw [List.append_assoc, List.take_left]
 have q0 := Cj ys
 rw [fin]
 ·rw [if_pos h6]
  have f1 : aO H.length (H ++ [HO.row 34 4 0 (ys.map V.d)] ++ l) false (.row H.length 0 0 n false) = some (.list 4 (ys.map V.d) false, (H ++ [HO.row 34 4 0 (ys.map V.d)] ++ l).set H.length (.frz 34 4 0 (ys.map V.d))) := by
   rw [aO]
   ·rw [aV, if_neg (by omega), h4]
    simp only
    rw [if_pos ⟨rfl, by simp [hn], q0⟩, if_neg (by simp), hn]
    simp [List.take_of_length_le]
   ·intro cs h; cases h
  have f2 : aO H.length ((H ++ [HO.row 34 4 0 (ys.map V.d)] ++ l).set H.length (.frz 34 4 0 (ys.map V.d))) false (.row r g 0 ts.length false) = some (.list 1 ts false, ((H ++ [HO.row 34 4 0 (ys.map V.d)] ++ l).set H.length (.frz 34 4 0 (ys.map V.d))).set r (.frz 3 1 g ts)) := by
   rw [aO]
   ·rw [aV, if_neg (by omega), h5]
    simp only
    rw [if_pos ⟨rfl, by simp, hN⟩, if_neg (by simp)]
    simp
   ·intro cs h; cases h
  simp only [bH, f1, f2]
 ·intro d h; cases h
theorem HF {h : Zb} {A B : DV} {xs ys : List Int} (hA : vw h 1 A = some (xs.map (.int .i64))) (hB : vw h 1 B = some (ys.map (.int .i64))) (hl : xs.length = ys.length) (hb : xs.length ≤ 1000000) :
 ∀ (k i : Nat), xs.length - i ≤ k → i ≤ xs.length → (C X (.loop ku) [(0, A), (1, B), (5, .int .i64 i)] h = some (.ret, [(4, .bool false)], h) ∧ xs.drop i ≠ ys.drop i) ∨ (∃ e', C X (.loop ku) [(0, A), (1, B), (5, .int .i64 i)] h = some (.exit 0, e', h) ∧ xs.drop i = ys.drop i) := by
 intro k
 induction k with
 | zero =>
  intro i hk hi
  obtain rfl : i = xs.length := by omega
  right
  rw [Zx]
  unfold ku
  refine rn @hA ?_
  rw [ZS]
  exact ⟨_, rfl, by rw [List.drop_length, hl, List.drop_length]⟩
 | succ k ih =>
  intro i hk hi
  by_cases w0 : i < xs.length
  ·have kM : i < ys.length := by omega
   obtain ⟨I, hI⟩ : ∃ I, I = i + 1 := ⟨_, rfl⟩
   have w1 : IntKind.i64.wrap ((i : Int) + 1) = (I : Int) := wr
   have d1 : xs.drop i = xs[i] :: xs.drop (i + 1) := List.drop_eq_getElem_cons w0
   have d2 : ys.drop i = ys[i] :: ys.drop (i + 1) := List.drop_eq_getElem_cons kM
   by_cases he : xs[i] = ys[i]
   ·have hs : C X ku [(0, A), (1, B), (5, .int .i64 i)] h = some (.norm, [(0, A), (1, B), (5, .int .i64 I)], h) := by
     unfold ku
     have he' : (xs[i] != ys[i]) = false := by simpa using he
     refine aT (jP @hA @hB @w0 @kM @w1 @he') ?_
     simp [Za, lk]
    rw [Zx, hs, ZZ]
    rcases ih I (by omega) (by omega) with ⟨c1, c2⟩ | ⟨e', c1, c2⟩
    ·refine .inl ⟨c1, fun h => ?_⟩
     rw [d1, d2] at h
     injection h with _ h
     exact c2 (by rw [hI]; exact h)
    ·exact .inr ⟨e', c1, by rw [d1, d2, he, ← hI, c2]⟩
   ·left
    have he' : (xs[i] != ys[i]) = true := by simpa using he
    rw [Zx]
    unfold ku
    refine aT (jP @hA @hB @w0 @kM @w1 @he') ?_
    rw [cQ]
    exact ⟨by simp [Za, lk], by intro h; rw [d1, d2] at h; injection h with h; exact he h⟩
  ·exact ih i (by omega) hi
theorem yx {h : Zb} {A B : DV} {xs ys : List Int} (hA : vw h 1 A = some (xs.map (.int .i64))) (hB : vw h 1 B = some (ys.map (.int .i64))) (hb : xs.length ≤ 1000000) : E X 12 [A, B] h = some (.bool (decide (xs = ys)), h) := by
 by_cases hl : xs.length = ys.length
 ·have hl' : ((xs.length : Int) != ys.length) = false := by simp [hl]
  have lY : ((ys.length : Int) != ys.length) = false := by simp
  rw [ZO (X := X) _ Ce _ rfl rfl]; unfold Ce
  refine rn (d8 @hA @hB @hl' @lY) ?_
  rcases HF hA hB hl hb xs.length 0 (by omega) (by omega) with ⟨c1, c2⟩ | ⟨e', c1, c2⟩
  ·rw [show ((0 : Nat) : Int) = 0 from rfl] at c1
   refine aD ?_
   rw [c1]
   refine rn (cC @hA @hB) ?_
   simp at c2
   exact re @c2
  ·rw [show ((0 : Nat) : Int) = 0 from rfl] at c1
   refine aD ?_
   rw [c1]
   refine rn (cC @hA @hB) ?_
   simp at c2
   exact re @c2
 ·have hl' : ((xs.length : Int) != ys.length) = true := by simp only [bne_iff_ne, ne_eq]; omega
  have hne : xs ≠ ys := fun h => hl (by rw [h])
  rw [ZO (X := X) _ Ce _ rfl rfl]; unfold Ce; exact rg (d8 @hA @hB @hl' @hne)
end Go.Proofs.YteekbciaggmfgaaDoor
namespace Go.Proofs.YteekbciaggmfgaaDoor
set_option linter.unusedVariables false
set_option linter.unusedSimpArgs false
set_option maxRecDepth 10000
end Go.Proofs.YteekbciaggmfgaaDoor
namespace Go.Proofs.YteekbciaggmfgaaDoor
attribute [local go_sem] ZF Zy ZA ZB Zp Zf Zm Zi Zk Zc Zd Zj Zq Zr ZC Zo Zg Zz Zu Zt ZR Zv Yj put lk Od.v Za Ze Zl Yv Yb Ya Yd ai Yt DV.isU DV.cells ae ZJ ZX ZK Zn splice ZM af ZT Ys bz bR bL bf bP bu aZ bn bN bg bQ bj bq bh bU bV bK aQ aR
attribute [local go_sem ↓] Zh
set_option linter.unusedVariables false
set_option linter.unusedSimpArgs false
set_option maxRecDepth 10000
def v3 : V := ⟨1, 3, ⟨#[]⟩, false⟩
def yE (n : Int) : Int := if n < 0 then 0 else if n > 4096 then 4096 else n
theorem Gl (n : Int) (h : Zb) : E X 39 [.int .i64 n] h = some (.ref (h.length + 1) 0, h ++ [.map 0 0 [], .box 100 [.int .i64 (yE n), .nils, .map h.length]]) := by
 have e := Kx n h
 rw [e]
 unfold yE
 by_cases h1 : n < 0
 ·simp [h1]
 ·simp [h1]
end Go.Proofs.YteekbciaggmfgaaDoor
