/- Ideal runs. -/
import Derived.Test.YtmbgfbomgbdjeaaGreatDoorStep
import Derived.Test.YtmbgfbomgbdjeaaGreatDoorCode
import Derived.Sort.Defs
namespace Go.Proofs.YtmbgfbomgbdjeaaGreatDoor
attribute [local go_sem] ZN ZG ZF ZH Zt Zh Zp Zk Zm Ze Zf Zl Zu Zv ZI Zs Zi ZE Zy Zx ZX ZA Yp put lk Od.v Za Zg Zo ax Yg Yh Yd ay eqk DV.isU DV.cells ae ZO Yb ZP Zr splice ZR af ZY eqs bJ cr bY bz cg bH bw bF bZ bA cm bE bG bC cu cw bW Yx Yy
attribute [local go_sem ↓] Zj
set_option linter.unusedVariables false
set_option linter.unusedSimpArgs false
set_option maxRecDepth 10000
structure V where
 k : Int
 n : Int
 s : ByteArray
 t : Bool
abbrev V.d (v : V) : DV := .agg [.int .i64 v.k, .int .i64 v.n, .str v.s, .bool v.t]
def V0 : V := ⟨0, 0, ⟨#[]⟩, false⟩
theorem zm (a : Int) (h : Zb) : E X 126 [.int .i64 a] h = some (.bool false, h) := by
 rw [Zz (X := X) _ Jw _ rfl rfl]; unfold Jw; exact rg trivial
theorem jV (a : ByteArray) : (a == a) = true := by
 show (a.data == a.data) = true
 simp
theorem zl (a : ByteArray) (h : Zb) : E X 127 [.str a] h = some (.bool false, h) := by
 rw [Zz (X := X) _ Jv _ rfl rfl]; unfold Jv; exact rg @jV
theorem rB (a : Bool) (h : Zb) : E X 103 [.bool a] h = some (.int .i64 (if a then 1 else 0), h) := by
 cases a
 ·rw [Zz (X := X) _ Bl _ rfl rfl]; unfold Bl; exact rg trivial
 ·rw [Zz (X := X) _ Bl _ rfl rfl]; unfold Bl; exact rg trivial
def eD (a b : Int) : Int := if a < b then -1 else if b < a then 1 else 0
theorem rD (a b : Int) (h : Zb) : E X 101 [.int .i64 a, .int .i64 b] h = some (.int .i64 (eD a b), h) := by
 by_cases h1 : a < b
 ·rw [Zz (X := X) _ uS _ rfl rfl]; unfold uS; exact Nc (aL @zm @h1)
 by_cases h2 : b < a
 ·rw [Zz (X := X) _ uS _ rfl rfl]; unfold uS; exact Nc (cH @zm @h1 @h2)
 ·rw [Zz (X := X) _ uS _ rfl rfl]; unfold uS; exact Nc (cH @zm @h1 @h2)
def lD (a b : ByteArray) : Bool := Op.bytesLess a.toList b.toList
def mE (a b : ByteArray) : Int := if lD a b then -1 else if !(lD a b || a == b) then 1 else 0
theorem rC (a b : ByteArray) (h : Zb) : E X 102 [.str a, .str b] h = some (.int .i64 (mE a b), h) := by
 cases h1 : Op.bytesLess a.toList b.toList
 ·cases h2 : (a == b)
  ·rw [Zz (X := X) _ uR _ rfl rfl]; unfold uR; exact HK (cH @zl @h1 @h2)
  ·rw [Zz (X := X) _ uR _ rfl rfl]; unfold uR; exact HK (cH @zl @h1 @h2)
 ·rw [Zz (X := X) _ uR _ rfl rfl]; unfold uR; exact HK (aL @zl @h1)
def ord (a b : V) : Int := if a.k ≠ b.k then eD a.k b.k else if a.k = 1 then eD a.n b.n else if a.k = 2 then mE a.s b.s else if a.k = 3 then eD (if a.t then 1 else 0) (if b.t then 1 else 0) else 0
theorem bN (a b : V) (h : Zb) : E X 68 [a.d, b.d] h = some (.int .i64 (ord a b), h) := by
 obtain ⟨k, n, s, t⟩ := a
 obtain ⟨k', n', s', t'⟩ := b
 by_cases h1 : k = k'
 ·subst h1
  by_cases h2 : k = 1
  ·subst h2
   rw [Zz (X := X) _ tf _ rfl rfl]; unfold tf; exact zx (cH @rD @rC @rB)
  by_cases h3 : k = 2
  ·subst h3
   rw [Zz (X := X) _ tf _ rfl rfl]; unfold tf; exact zx (cH @rD @rC @rB)
  by_cases h4 : k = 3
  ·subst h4
   rw [Zz (X := X) _ tf _ rfl rfl]; unfold tf; exact zx (cH @rD @rC @rB)
  have e2 : (k == 1) = false := by simpa using h2
  have e3 : (k == 2) = false := by simpa using h3
  have e4 : (k == 3) = false := by simpa using h4
  rw [Zz (X := X) _ tf _ rfl rfl]; unfold tf; exact zx (gI @h2 @h3 @h4 @e2 @e3 @e4 @rD @rC @rB)
 ·have e1 : (k != k') = true := by simpa using h1
  rw [Zz (X := X) _ tf _ rfl rfl]; unfold tf; exact zx (ej @h1 @e1 @rD @rC @rB)
def aG (v : V) : Bool := if v.k = 1 then v.s == ⟨#[]⟩ && !v.t else if v.k = 2 then v.n == 0 && !v.t && decide (v.s.size ≤ 64) else if v.k = 3 then v.n == 0 && v.s == ⟨#[]⟩ else if v.k = 0 then v.n == 0 && v.s == ⟨#[]⟩ && !v.t else false
theorem tE (v : V) (h : Zb) : E X 84 [v.d] h = some (.bool (aG v), h) := by
 obtain ⟨k, n, s, t⟩ := v
 by_cases h1 : k = 1
 ·subst h1
  rw [Zz (X := X) _ qj _ rfl rfl]; unfold qj; exact qw trivial
 have e1 : (k == 1) = false := by simpa using h1
 by_cases h2 : k = 2
 ·subst h2
  by_cases h5 : s.size ≤ 64
  ·have e5 : ¬ (64 : Int) < (s.size : Int) := by omega
   rw [Zz (X := X) _ qj _ rfl rfl]; unfold qj; exact qw (cH @h5 @e5 @jV)
  ·have e5 : (64 : Int) < (s.size : Int) := by omega
   rw [Zz (X := X) _ qj _ rfl rfl]; unfold qj; exact qw (aL @h5 @e5)
 have e2 : (k == 2) = false := by simpa using h2
 by_cases h3 : k = 3
 ·subst h3
  rw [Zz (X := X) _ qj _ rfl rfl]; unfold qj; exact qw trivial
 have e3 : (k == 3) = false := by simpa using h3
 by_cases h4 : k = 0
 ·subst h4
  rw [Zz (X := X) _ qj _ rfl rfl]; unfold qj; refine R4 trivial ?_; simp [Zn, ZS, ZW, go_sem, fin, aO, aJ, bq, cZ, d8, aG]
  cases t <;> simp
 have e4 : (k == 0) = false := by simpa using h4
 rw [Zz (X := X) _ qj _ rfl rfl]; unfold qj; exact qw (iF @h1 @h2 @h3 @h4 @e1 @e2 @e3 @e4)
theorem K7 (n : Int) (s : ByteArray) (t : Bool) (h : Zb) : E X 52 [.agg [.int .i64 2, .int .i64 n, .str s, .bool t]] h = some (.bool (aG ⟨2, n, s, t⟩), h) := by
 cases q0 : (n == 0) <;> cases q2 : t
 all_goals
  rw [Zz (X := X) _ tj _ rfl rfl]; unfold tj; refine R4 (aL @q0 @q2) ?_; simp [Zn, ZS, ZW, go_sem, fin, aO, aJ, bq, cZ, d8, aG, q0, q2]
 all_goals omega
theorem J3 (v : V) (h : Zb) : E X 52 [v.d] h = some (.bool (aG v), h) := by
 obtain ⟨k, n, s, t⟩ := v
 by_cases h1 : k = 1
 ·subst h1
  rw [Zz (X := X) _ tj _ rfl rfl]; unfold tj; exact qw trivial
 have e1 : (k == 1) = false := by simpa using h1
 by_cases h2 : k = 2
 ·subst h2
  exact K7 n s t h
 have e2 : (k == 2) = false := by simpa using h2
 by_cases h3 : k = 3
 ·subst h3
  rw [Zz (X := X) _ tj _ rfl rfl]; unfold tj; exact qw trivial
 have e3 : (k == 3) = false := by simpa using h3
 by_cases h4 : k = 0
 ·subst h4
  rw [Zz (X := X) _ tj _ rfl rfl]; unfold tj; exact qw trivial
 have e4 : (k == 0) = false := by simpa using h4
 rw [Zz (X := X) _ tj _ rfl rfl]; unfold tj; exact qw (iF @h1 @h2 @h3 @h4 @e1 @e2 @e3 @e4)
def V.eqb (a b : V) : Bool := a.k == b.k && (a.n == b.n && (a.s == b.s && a.t == b.t))
theorem V.eqb_iff (a b : V) : a.eqb b = true ↔ a = b := by
 obtain ⟨k, n, s, t⟩ := a
 obtain ⟨k', n', s', t'⟩ := b
 have hs : (s == s') = true ↔ s = s' := by
  constructor
  ·intro h
   have h' : (s.data == s'.data) = true := h
   cases s; cases s'
   simp at h' ⊢
   exact h'
  ·rintro rfl; exact jV s
 simp only [V.eqb, Bool.and_eq_true, hs, beq_iff_eq, V.mk.injEq]
def dR (v : V) : List V → Nat → Option Nat
 | [], _ => none
 | a :: l, i => if v.eqb a then some i else dR v l (i + 1)
def mD : List V → Nat → List (DV × DV)
 | [], _ => []
 | a :: l, i => (a.d, .int .i64 i) :: mD l (i + 1)
theorem vF (a b : V) : gm true [1, 1, 2, 0] a.d b.d = some (a.eqb b) := by
 simp [gm, ZY, eqs, V.eqb]
theorem vB (v : V) : ∀ (l : List V) (i : Nat), iP true [1, 1, 2, 0] v.d (mD l i) = some ((dR v l i).map fun j => .int .i64 (j : Int))
 | [], i => rfl
 | a :: l, i => by
  simp only [mD, iP, vF, dR]
  cases h : v.eqb a
  ·simp [vB v l]
  ·simp
theorem xX (v : V) : ∀ (l : List V) (i : Nat), dR v l i = none → gR true [1, 1, 2, 0] v.d (.int .i64 ((i + l.length : Nat) : Int)) (mD l i) = some (mD (l ++ [v]) i)
 | [], i, _ => by simp [gR, mD]
 | a :: l, i, hf => by
  simp only [dR] at hf
  cases h : v.eqb a
  ·rw [h] at hf
   have := xX v l (i + 1) (by simpa using hf)
   simp only [mD, gR, vF, h, List.cons_append]
   rw [show i + (a :: l).length = i + 1 + l.length by simp; omega, this]
   rfl
  ·rw [h] at hf; cases hf
theorem qb (v : V) : ∀ (l : List V) (i j : Nat), dR v l i = some j → i ≤ j ∧ j < i + l.length ∧ l[j - i]? = some v
 | [], i, j, h => by cases h
 | a :: l, i, j, h => by
  simp only [dR] at h
  cases hv : v.eqb a
  ·rw [hv] at h
   obtain ⟨h1, h2, h3⟩ := qb v l (i + 1) j (by simpa using h)
   refine ⟨by omega, by simp; omega, ?_⟩
   rw [show j - i = (j - (i + 1)) + 1 by omega]
   simpa using h3
  ·rw [hv] at h
   have : i = j := by simpa using h
   subst this
   simp [(V.eqb_iff v a).1 hv]
structure DictAt (H : Zb) (o m : Nat) (L : DV) (Yw : Int) (vs : List V) : Prop where
 box : H[o]? = some (.box 117 [.int .i64 Yw, L, .map m])
 map : H[m]? = some (.map 0 0 (mD vs 0))
 row : (vs = [] ∧ L = .nils) ∨ ∃ r g, L = .row r g 0 vs.length false ∧ H[r]? = some (.row 56 4 g (vs.map V.d))
theorem Q5 (n : Int) (h : Zb) : E X 57 [.int .i64 n] h = some (.ref (h.length + 1) 0, h ++ [.map 0 0 [], .box 117 [.int .i64 (if (if n < 0 then 0 else n) > 4096 then 4096 else (if n < 0 then 0 else n)), .nils, .map h.length]]) := by
 rw [Zz (X := X) _ Qg _ rfl rfl]; unfold Qg; exact Tz trivial
theorem hle {H : Zb} {o : Nat} {x : HO} (h : H[o]? = some x) (l : Zb) : (H ++ l)[o]? = some x := by
 rw [List.getElem?_append_left (List.getElem?_eq_some_iff.1 h).1]; exact h
theorem DictAt.len {H : Zb} {o m : Nat} {L : DV} {Yw : Int} {vs : List V} (hd : DictAt H o m L Yw vs) (l : Zb) : vw (H ++ l) 4 L = some (vs.map V.d) := by
 rcases hd.row with ⟨rfl, rfl⟩ | ⟨r, g, rfl, e2⟩
 ·rfl
 ·simp [vw, hle e2 l, List.take_of_length_le]
theorem DictAt.len0 {H : Zb} {o m : Nat} {L : DV} {Yw : Int} {vs : List V} (hd : DictAt H o m L Yw vs) : vw H 4 L = some (vs.map V.d) := by
 have := hd.len []
 simpa using this
theorem JZ {H : Zb} {o m : Nat} {L : DV} {Yw : Int} {vs : List V} (hd : DictAt H o m L Yw vs) : E X 86 [.ref o 0] H = some (.int .i64 vs.length, H) := by
 have e1 := hd.box
 have e2 := hd.len0
 rw [Zz (X := X) _ P9 _ rfl rfl]; unfold P9; exact rg (aL @e1 @e2)
theorem CV {H : Zb} {o m : Nat} {L : DV} {Yw : Int} {vs : List V} (hd : DictAt H o m L Yw vs) (v : V) : E X 85 [.ref o 0, v.d] H = some (.tup [.int .i64 ((dR v vs 0).getD 0 : Nat), .bool (dR v vs 0).isSome], H) := by
 have e1 := hle hd.box
 have e2 := hle hd.map
 have e3 := vB v vs 0
 cases hf : dR v vs 0
 ·rw [Zz (X := X) _ GA _ rfl rfl]; unfold GA; exact Nf (ej @e1 @e2 @e3 @vF @hf)
 ·rw [Zz (X := X) _ GA _ rfl rfl]; unfold GA; exact Nf (ej @e1 @e2 @e3 @vF @hf)
theorem Pw (v : V) (h : Zb) : bL [v.d] h = some ([v.d], h) := rfl
theorem Ut (v : V) : Wc 4 v.d := by simp [Wc, DV.cells, DV.one]
theorem Qx (v : V) : Nr v.d := by
 refine .agg ?_
 intro x hx
 simp at hx
 rcases hx with rfl | rfl | rfl | rfl <;> constructor
theorem HE {H : Zb} {o m : Nat} {L : DV} {Yw : Int} {vs : List V} (hd : DictAt H o m L Yw vs) (v : V) (hm : aG v = false) : E X 58 [.ref o 0, v.d] H = some (.tup [.int .i64 0, .int .i64 1], H) := by
 rw [Zz (X := X) _ wQ _ rfl rfl]; unfold wQ; exact rg (aL @tE @hm)
theorem DictAt.app {H : Zb} {o m : Nat} {L : DV} {Yw : Int} {vs : List V} (hd : DictAt H o m L Yw vs) (l : Zb) : DictAt (H ++ l) o m L Yw vs :=
 ⟨hle hd.box l, hle hd.map l, by
  rcases hd.row with h | ⟨r, g, h1, h2⟩
  ·exact .inl h
  ·exact .inr ⟨r, g, h1, hle h2 l⟩⟩
theorem HF {H : Zb} {o m : Nat} {L : DV} {Yw : Int} {vs : List V} (hd : DictAt H o m L Yw vs) (v : V) (hm : aG v = true) {j : Nat} (hf : dR v vs 0 = some j) : E X 58 [.ref o 0, v.d] H = some (.tup [.int .i64 j, .int .i64 0], H) := by
 have e1 := fun l => CV (hd.app l) v
 rw [Zz (X := X) _ wQ _ rfl rfl]; unfold wQ; exact rg (cP @tE @hm @e1 @hf)
theorem CX {H : Zb} {o m : Nat} {L : DV} {Yw : Int} {vs : List V} (hd : DictAt H o m L Yw vs) (v : V) (hm : aG v = true) (hf : dR v vs 0 = none) (hl : Yw ≤ vs.length) : E X 58 [.ref o 0, v.d] H = some (.tup [.int .i64 0, .int .i64 4], H) := by
 have e1 := fun l => CV (hd.app l) v
 have e2 := hd.len
 have e3 := hle hd.box
 rw [Zz (X := X) _ wQ _ rfl rfl]; unfold wQ; exact rg (fV @tE @hm @e1 @hf @e2 @e3 @hl)
def rowOf : DV → Option Nat
 | .row r _ _ _ _ => some r
 | _ => none
theorem Em {H : Zb} {o m : Nat} {L : DV} {Yw : Int} {vs : List V} (hd : DictAt H o m L Yw vs) (v : V) (hm : aG v = true) (hf : dR v vs 0 = none) (hl : (vs.length : Int) < Yw) (hb : Yw ≤ 4096) :
 ∃ L' H', E X 58 [.ref o 0, v.d] H = some (.tup [.int .i64 vs.length, .int .i64 0], H') ∧ DictAt H' o m L' Yw (vs ++ [v]) ∧ H.length ≤ H'.length ∧
  (∀ i < H.length, i ≠ o → i ≠ m → rowOf L ≠ some i → H'[i]? = H[i]?) ∧ (rowOf L' = rowOf L ∨ ∃ r, rowOf L' = some r ∧ H.length ≤ r) := by
 have e1 := fun l => CV (hd.app l) v
 have e2 := hd.len
 have e3 := hle hd.box
 have e4 := hle hd.map
 have n1 : ¬ Yw ≤ vs.length := by omega
 have ho : o < H.length := (List.getElem?_eq_some_iff.1 hd.box).1
 have Fq : m < H.length := (List.getElem?_eq_some_iff.1 hd.map).1
 have B9 : o ≠ m := by
  rintro rfl
  have := hd.box.symm.trans hd.map
  simp at this
 have hput := xX v vs 0 hf
 rw [Nat.zero_add] at hput
 have w1 : IntKind.i64.wrap (vs.length : Int) = vs.length := wrap64 _ (by omega) (by omega)
 generalize hh1 : (H ++ [HO.box 56 [.int .i64 v.k, .int .i64 v.n, .str v.s, .bool v.t]]).set m (.map 0 0 (mD (vs ++ [v]) 0)) = h1
 have l1 : h1.length = H.length + 1 := by rw [← hh1]; simp
 have f1 : h1[o]? = some (.box 117 [.int .i64 Yw, L, .map m]) := by
  rw [← hh1, List.getElem?_set_ne (Ne.symm B9)]; exact e3 [HO.box 56 [.int .i64 v.k, .int .i64 v.n, .str v.s, .bool v.t]]
 have f2 : h1[H.length]? = some (HO.box 56 [.int .i64 v.k, .int .i64 v.n, .str v.s, .bool v.t]) := by
  rw [← hh1, List.getElem?_set_ne (by omega)]; simp
 have f3 : vw h1 4 L = some (vs.map V.d) := by
  rcases hd.row with ⟨rfl, rfl⟩ | ⟨r, g, rfl, e⟩
  ·rfl
  ·have : r ≠ m := by
    rintro rfl
    have := e.symm.trans hd.map
    simp at this
   have : h1[r]? = some (.row 56 4 g (vs.map V.d)) := by
    rw [← hh1, List.getElem?_set_ne (Ne.symm this)]; exact hle e [HO.box 56 [.int .i64 v.k, .int .i64 v.n, .str v.s, .bool v.t]]
   simp [vw, this, List.take_of_length_le]
 have fx : ∀ i < H.length, i ≠ m → h1[i]? = H[i]? := fun i hi hne => by
  rw [← hh1, List.getElem?_set_ne (Ne.symm hne), List.getElem?_append_left hi]
 obtain ⟨L', h2, hap, a1, a2, a3, a4, a5⟩ : ∃ L' h2, aW h1 56 4 40 L (vs.map V.d) [v.d] = some (L', h2) ∧ h1.length ≤ h2.length ∧ (∀ i < h1.length, rowOf L ≠ some i → h2[i]? = h1[i]?) ∧ (rowOf L' = rowOf L ∨ ∃ r, rowOf L' = some r ∧ h1.length ≤ r) ∧ (∃ r g, L' = .row r g 0 (vs.length + 1) false ∧ h2[r]? = some (.row 56 4 g ((vs ++ [v]).map V.d))) ∧ rowOf L' ≠ some o := by
  have hle' : ((vs.map V.d).length + [v.d].length) * 40 ≤ 140737488355328 := by simp; omega
  rcases hd.row with ⟨rfl, rfl⟩ | ⟨r, g, rfl, e⟩
  ·refine ⟨.row h1.length 0 0 1 false, h1 ++ [.row 56 4 0 [v.d]], ?_, by simp, fun i hi _ => List.getElem?_append_left hi, .inr ⟨_, rfl, Nat.le_refl _⟩, ⟨h1.length, 0, rfl, by simp⟩, ?_⟩
   ·simp [aW]
   ·simp only [rowOf]; intro h; injection h with h; omega
  ·have Vd : r ≠ m := by
    rintro rfl
    have := e.symm.trans hd.map
    simp at this
   have hro : r ≠ o := by
    rintro rfl
    have := e.symm.trans hd.box
    simp at this
   have er : h1[r]? = some (.row 56 4 g (vs.map V.d)) := by
    rw [← hh1, List.getElem?_set_ne (Ne.symm Vd)]; exact hle e [HO.box 56 [.int .i64 v.k, .int .i64 v.n, .str v.s, .bool v.t]]
   have hr : r < h1.length := (List.getElem?_eq_some_iff.1 er).1
   refine ⟨.row r (g + 1) 0 (vs.length + 1) false, h1.set r (.row 56 4 (g + 1) (vs.map V.d ++ [v.d])), ?_, by simp, ?_, .inl rfl, ⟨r, g + 1, rfl, ?_⟩, ?_⟩
   ·simp only [aW, if_pos hle', er]
    simp
   ·intro i hi hne
    refine List.getElem?_set_ne ?_
    rintro rfl
    exact hne rfl
   ·rw [List.getElem?_set_self hr]; simp
   ·simp only [rowOf]; intro h; injection h with h; exact hro h
 have g1 : h2[o]? = some (.box 117 [.int .i64 Yw, L, .map m]) := by
  rw [a2 o (by omega) ?_]
  ·exact f1
  ·intro hr
   rcases hd.row with ⟨rfl, rfl⟩ | ⟨r, g, rfl, e⟩
   ·cases hr
   ·injection hr with hr
    subst hr
    have := e.symm.trans hd.box
    simp at this
 generalize gu : h2.set o (.box 117 [.int .i64 Yw, L', .map m]) = h3
 have k1 : h3[o]? = some (.box 117 [.int .i64 Yw, L', .map m]) := by
  rw [← gu]; exact List.getElem?_set_self (by omega)
 have kx : ∀ i, i ≠ o → h3[i]? = h2[i]? := fun i hi => by rw [← gu, List.getElem?_set_ne (Ne.symm hi)]
 have Vn : rowOf L ≠ some m := by
  intro hr
  rcases hd.row with ⟨rfl, rfl⟩ | ⟨r, g, rfl, e⟩
  ·cases hr
  ·injection hr with hr
   subst hr
   have := e.symm.trans hd.map
   simp at this
 have hD : DictAt h3 o m L' Yw (vs ++ [v]) := by
  refine ⟨k1, ?_, .inr ?_⟩
  ·rw [kx m (Ne.symm B9), a2 m (by omega) Vn, ← hh1, List.getElem?_set_self (by simp; omega)]
  ·obtain ⟨r, g, jj, h2'⟩ := a4
   refine ⟨r, g, by rw [jj]; simp, ?_⟩
   rw [kx r ?_]
   ·exact h2'
   ·rintro rfl
    exact a5 (by rw [jj]; rfl)
 have k3 := hD.len0
 refine ⟨L', h3, ?_, hD, ?_, ?_, ?_⟩
 ·have q1 := Pw v
  have q2 := Ut v
  have q3 := Qx v
  have q4 : vw h1 4 (.list 4 [v.d] true) = some [v.d] := rfl
  rw [Zz (X := X) _ wQ _ rfl rfl]; unfold wQ
  have q6 : (vs.length : Int) + 1 - 1 = vs.length := by omega
  refine UK (iG @tE @hm @e1 @hf @e2 @e3 @n1 @e4 @hput @hh1 @vF @jV) ?_
  obtain ⟨rr, gg, hL', WO⟩ := a4
  subst hL'
  have q8 : h3.take H.length ≠ H := by
   intro hq
   have hl' : ∀ (l : List V) (i : Nat), (mD l i).length = l.length := by
    intro l; induction l with
    | nil => intro i; rfl
    | cons a l ih => intro i; simp [mD, ih]
   have h9 := hd.map
   rw [← hq, List.getElem?_take_of_lt Fq, hD.map] at h9
   simp only [Option.some.injEq, HO.map.injEq, true_and] at h9
   have h10 := congrArg List.length h9
   rw [hl', hl'] at h10
   simp at h10
  rw [Zq (by simp [go_sem, f1, f2, f3, q1, q2, q3, q4, hap, g1, gu, aM]; exact ⟨rfl, rfl⟩)]
  rw [Zq (by simp [go_sem, k1, k3, w1, q6]; exact ⟨rfl, rfl⟩)]
  rw [Yr]
  exact UR trivial
 ·rw [← gu]; simp; omega
 ·intro i hi jj h2' Aw
  rw [kx i jj, a2 i (by omega) Aw, fx i hi h2']
 ·rcases a3 with h | ⟨r, h, h'⟩
  ·exact .inl h
  ·exact .inr ⟨r, h, by omega⟩
def bs (p : Nat → Bool) (lo hi : Nat) : Nat := if h : lo < hi then (if p ((lo + hi) / 2) then bs p lo ((lo + hi) / 2) else bs p ((lo + hi) / 2 + 1) hi) else lo
termination_by hi - lo
theorem MX (x v : V) {h : Zb} {q : Nat} {t : Nat} (hq : h[q]? = some (.box t v.d.cells)) : E X 124 [x.d, .ref q 0] h = some (.bool (decide (ord x v ≥ 0)), h) := by
 have e1 := hle hq
 rw [Zz (X := X) _ Jz _ rfl rfl]; unfold Jz; exact rg (aL @e1 @bN)
theorem LP {h : Zb} {L c : DV} {f : Nat} {xs : List V} {p : V → Bool} (hL : vw h 4 L = some (xs.map V.d)) (hb : xs.length ≤ 1000000) (hf : ∀ x ∈ xs, E X f [x.d, c] h = some (.bool (p x), h)) :
 ∀ (n lo hi : Nat), hi - lo ≤ n → lo ≤ hi → hi ≤ xs.length → ∃ e', C X (.loop kW) [(0, L), (1, .func f [] [c]), (5, .int .i64 lo), (6, .int .i64 hi)] h = some (.exit 0, e', h) ∧ lk e' 5 = .int .i64 (bs (fun i => (xs[i]?.map p).getD false) lo hi : Nat) := by
 intro n
 induction n with
 | zero =>
  intro lo hi h1 h2 h3
  obtain rfl : lo = hi := by omega
  rw [Zc]
  unfold kW
  refine rn trivial ?_
  rw [Zw]
  refine ⟨_, rfl, ?_⟩
  rw [bs]
  simp [lk, Za]
 | succ n ih =>
  intro lo hi h1 h2 h3
  by_cases hlt : lo < hi
  ·obtain ⟨m, hm⟩ : ∃ m, m = (lo + hi) / 2 := ⟨_, rfl⟩
   have w0 : (lo : Int) < hi := by omega
   have w1 : IntKind.i64.wrap ((lo : Int) + hi) = (lo : Int) + hi := wrap64 _ (by omega) (by omega)
   have w2 : Int.tdiv ((lo : Int) + hi) 2 = m := by rw [Int.tdiv_eq_ediv_of_nonneg (by omega)]; omega
   have w3 : IntKind.i64.wrap (m : Int) = m := wrap64 _ (by omega) (by omega)
   have w4 : IntKind.i64.wrap ((m : Int) + 1) = ((m + 1 : Nat) : Int) := by rw [wrap64 _ (by omega) (by omega)]; rfl
   have w5 : (m : Int) < xs.length := by omega
   have w6 : m < xs.length := by omega
   have j4 : xs[m]? = some xs[m] := List.getElem?_eq_getElem (by omega)
   have hp := hf xs[m] (List.getElem_mem _)
   cases hx : p xs[m]
   ·have hn : C X kW [(0, L), (1, .func f [] [c]), (5, .int .i64 lo), (6, .int .i64 hi)] h = some (.norm, [(0, L), (1, .func f [] [c]), (5, .int .i64 (m + 1 : Nat)), (6, .int .i64 hi)], h) := by
     unfold kW
     rw [hx] at hp
     refine ah (gI @w0 @w1 @w2 @w3 @w4 @w5 @w6 @hL @hp) ?_
     simp [Za, lk]
    rw [Zc, hn, ZB]
    obtain ⟨e', h4, h5⟩ := ih (m + 1) hi (by omega) (by omega) h3
    refine ⟨e', h4, h5.trans ?_⟩
    rw [bs.eq_1 _ lo hi, dif_pos hlt, ← hm, j4]
    simp [hx]
   ·have hn : C X kW [(0, L), (1, .func f [] [c]), (5, .int .i64 lo), (6, .int .i64 hi)] h = some (.norm, [(0, L), (1, .func f [] [c]), (5, .int .i64 lo), (6, .int .i64 m)], h) := by
     unfold kW
     rw [hx] at hp
     refine ah (gI @w0 @w1 @w2 @w3 @w4 @w5 @w6 @hL @hp) ?_
     simp [Za, lk]
    rw [Zc, hn, ZB]
    obtain ⟨e', h4, h5⟩ := ih lo m (by omega) (by omega) (by omega)
    refine ⟨e', h4, h5.trans ?_⟩
    rw [bs.eq_1 _ lo hi, dif_pos hlt, ← hm, j4]
    simp [hx]
  ·exact ih lo hi (by omega) h2 h3
theorem MZ {h : Zb} {L c : DV} {f : Nat} {xs : List V} {p : V → Bool} (hL : vw h 4 L = some (xs.map V.d)) (hb : xs.length ≤ 1000000) (hf : ∀ x ∈ xs, E X f [x.d, c] h = some (.bool (p x), h)) :
 E X 123 [L, .func f [] [c]] h = some (.int .i64 (bs (fun i => (xs[i]?.map p).getD false) 0 xs.length : Nat), h) := by
 obtain ⟨e', h1, h2⟩ := LP hL hb hf xs.length 0 xs.length (by omega) (by omega) (by omega)
 rw [Zz (X := X) _ JA _ rfl rfl]; unfold JA
 refine rn @hL ?_
 simp [Za, lk]
 simp at h1
 rw [h1]
 refine rn @h2 ?_
 exact re @h2
instance : Inhabited V := ⟨V0⟩
def lt (a b : V) : Bool := decide (ord a b < 0)
def hp (H : Zb) (r g : Nat) (d : Array V) : Zb := H.set r (.row 56 4 g (d.toList.map V.d))
abbrev Ym (r g n : Nat) : DV := .row r g 0 n false
def el (d : Array V) (i : Nat) : V := d[i]!
def jW (d : Array V) (i : Nat) (v : V) : Array V := d.setIfInBounds i v
theorem bu (d : Array V) (i : Nat) (v : V) : (jW d i v).size = d.size := by simp [jW]
theorem dG (d : Array V) (i j : Nat) : Go.Sort.swp d i j = jW (jW d i (el d j)) j (el d i) := rfl
theorem BK (d : Array V) (i : Nat) (hi : i < d.size) : d.toList[i]? = some (el d i) := by
 rw [el, getElem!_pos d i hi, Array.getElem?_toList, Array.getElem?_eq_getElem hi]
theorem vP {H : Zb} {r : Nat} (g : Nat) (d : Array V) (hr : r < H.length) : vw (hp H r g d) 4 (Ym r g d.size) = some (d.toList.map V.d) := by
 simp [vw, hp, List.getElem?_set_self hr, List.take_of_length_le]
theorem Dj {H : Zb} {r : Nat} (g : Nat) (d : Array V) (hr : r < H.length) {i : Nat} (hi : i < d.size) : aH (hp H r g d) true 4 (.elem (Ym r g d.size) 4 i 0) = some (el d i).d := by
 rw [aH, vP g d hr]
 simp only [List.getElem?_map, BK d i hi, Option.map_some]
 simp [ax, DV.cells]
theorem Di {H : Zb} {r : Nat} (g : Nat) (d : Array V) (hr : r < H.length) {i : Nat} (hi : i < d.size) (v : V) : stx (hp H r g d) 4 (.elem (Ym r g d.size) 4 i 0) v.d = some (hp H r g (jW d i v)) := by
 have h1 : (hp H r g d)[r]? = some (.row 56 4 g (d.toList.map V.d)) := by simp [hp, List.getElem?_set_self hr]
 have h2 : (d.toList.map V.d)[i]? = some (el d i).d := by rw [List.getElem?_map, BK d i hi]; rfl
 rw [stx, if_pos (by simp [DV.cells, DV.one])]
 simp only [h1]
 rw [if_pos (by simp [hi])]
 simp only [Nat.zero_add, h2]
 simp [oA, DV.cells, splice, hp, jW]
theorem swp_size (d : Array V) (i j : Nat) : (Go.Sort.swp d i j).size = d.size := by simp [Go.Sort.swp]
theorem mq (a : Nat) : ∀ (j : Nat) (d : Array V), (Go.Sort.insInner lt a j d).size = d.size
 | 0, d => rfl
 | j + 1, d => by
  rw [Go.Sort.insInner]
  split
  ·rw [mq a j, swp_size]
  ·rfl
theorem EO {H : Zb} {r g n a b i : Nat} (hr : r < H.length) (hn : n ≤ 1000000) (hb : b ≤ n) (hi : i < n) :
 ∀ (j : Nat) (d : Array V), d.size = n → j < n → ∃ x y, C X (.loop kU) [(0, Ym r g n), (1, .int .i64 a), (2, .int .i64 b), (3, .func 68 [] []), (8, .int .i64 i), (9, .int .i64 j)] (hp H r g d) =
  some (.exit 2, [(0, Ym r g n), (1, .int .i64 a), (2, .int .i64 b), (3, .func 68 [] []), (8, .int .i64 i), (9, x), (34, y)], hp H r g (Go.Sort.insInner lt a j d)) := by
 intro j
 induction j with
 | zero =>
  intro d hd hj
  have w0 : ¬ ((a : Int) < 0) := by omega
  rw [Zc]
  unfold kU
  refine rn @w0 ?_
  rw [Zw]
  exact ⟨_, _, by simp [Za, lk, Go.Sort.insInner]; exact ⟨rfl, rfl⟩⟩
 | succ j ih =>
  intro d hd hj
  obtain ⟨J, hJ⟩ : ∃ J, J = j + 1 := ⟨_, rfl⟩
  rw [← hJ]
  have VR : Go.Sort.insInner lt a J d = if J > a && lt (el d J) (el d j) then Go.Sort.insInner lt a j (Go.Sort.swp d J j) else d := by
   subst hJ; rw [Go.Sort.insInner]; rfl
  rw [VR]
  by_cases qT : a < J
  ·have w0 : (a : Int) < (J : Int) := by omega
   have w1 : IntKind.i64.wrap ((J : Int) - 1) = j := wr
   have w2 : j < d.size := by omega
   have w3 : J < d.size := by omega
   have w5 : j < n := by omega
   have w6 : J < n := by omega
   have r0 := vP (H := H) g d hr
   have r1 := Dj (H := H) g d hr w2
   have r2 := Dj (H := H) g d hr w3
   rw [hd] at r0 r1 r2
   cases hlt : lt (el d J) (el d j)
   ·have w4 : ¬ (ord (el d J) (el d j) < 0) := by simpa [lt] using hlt
    rw [Zc]
    unfold kU
    refine rn (jD @qT @w0 @w1 @w2 @w3 @w5 @w6 @hd @r0 @r1 @r2 @bN @w4) ?_
    rw [Zw]
    exact ⟨_, _, by simp [Za, lk]; exact ⟨rfl, rfl⟩⟩
   ·have w4 : ord (el d J) (el d j) < 0 := by simpa [lt] using hlt
    have q1 := Di (H := H) g d hr w3 (el d j)
    have q2 := Di (H := H) g (jW d J (el d j)) hr (i := j) (by simpa [jW] using w2) (el d J)
    rw [hd] at q1
    have hs : (jW d J (el d j)).size = n := by simp [hd, jW]
    rw [hs] at q2
    have r3 := vP (H := H) g (jW d J (el d j)) hr
    rw [hs] at r3
    have hn' : C X kU [(0, Ym r g n), (1, .int .i64 a), (2, .int .i64 b), (3, .func 68 [] []), (8, .int .i64 i), (9, .int .i64 J)] (hp H r g d) = some (.norm, [(0, Ym r g n), (1, .int .i64 a), (2, .int .i64 b), (3, .func 68 [] []), (8, .int .i64 i), (9, .int .i64 j)], hp H r g (Go.Sort.swp d J j)) := by
     unfold kU
     rw [dG]
     refine Tr (DG @qT @w0 @w1 @w2 @w3 @w5 @w6 @hd @r0 @r3 @r1 @r2 @q1 @q2 @bN @w4) ?_
     simp [Za, lk]
    rw [Zc, hn', ZB, if_pos (by simp [qT])]
    exact ih _ (by rw [swp_size, hd]) (by omega)
  ·have w0 : ¬ ((a : Int) < (J : Int)) := by omega
   rw [Zc]
   unfold kU
   refine rn (aL @qT @w0) ?_
   rw [Zw]
   exact ⟨_, _, by simp [Za, lk, qT]; exact ⟨rfl, rfl⟩⟩
theorem eO (H : Zb) (r g : Nat) (d : Array V) : (hp H r g d).length = H.length := by simp [hp]
theorem qc (H : Zb) (r g : Nat) (d d' : Array V) : fin (hp H r g d) (hp H r g d') [] = (.tup [], hp H r g d') := by
 have h1 : (hp H r g d').take (hp H r g d).length = hp H r g d' := by
  rw [eO, ← eO H r g d']; exact List.take_length
 rw [fin, h1]
 ·split
  ·rename_i h2; simp only [bq]; rw [h2]
  ·rfl
 ·intro d h; cases h
theorem qP (a b : Nat) (i : Nat) (d : Array V) : (Go.Sort.insOuter lt a b i d).size = d.size := by
 rw [Go.Sort.insOuter]
 split
 ·rw [qP a b (i + 1), mq]
 ·rfl
termination_by b - i
theorem EP {H : Zb} {r g n a b : Nat} (hr : r < H.length) (hn : n ≤ 1000000) (hb : b ≤ n) :
 ∀ (k i : Nat) (d : Array V), b - i ≤ k → d.size = n → i ≤ n + 1 → ∃ e', C X (.loop pN) [(0, Ym r g n), (1, .int .i64 a), (2, .int .i64 b), (3, .func 68 [] []), (8, .int .i64 i)] (hp H r g d) =
  some (.exit 0, e', hp H r g (Go.Sort.insOuter lt a b i d)) := by
 intro k
 induction k with
 | zero =>
  intro i d hk hd hi
  have w0 : ¬ ((i : Int) < b) := by omega
  have w1 : ¬ i < b := by omega
  rw [Zc]
  unfold pN
  refine rn (aL @w0 @w1) ?_
  rw [Zw, Go.Sort.insOuter, if_neg w1]
  exact ⟨_, rfl⟩
 | succ k ih =>
  intro i d hk hd hi
  by_cases w1 : i < b
  ·have w0 : (i : Int) < b := by omega
   have w2 : IntKind.i64.wrap ((i : Int) + 1) = ((i + 1 : Nat) : Int) := by rw [wrap64 _ (by omega) (by omega)]; rfl
   obtain ⟨x, y, hin⟩ := EO (H := H) (r := r) (g := g) (n := n) (a := a) (b := b) (i := i) hr hn hb (by omega) i d hd (by omega)
   have hs : C X pN [(0, Ym r g n), (1, .int .i64 a), (2, .int .i64 b), (3, .func 68 [] []), (8, .int .i64 i)] (hp H r g d) = some (.norm, [(0, Ym r g n), (1, .int .i64 a), (2, .int .i64 b), (3, .func 68 [] []), (8, .int .i64 (i + 1 : Nat))], hp H r g (Go.Sort.insInner lt a i d)) := by
    unfold pN
    refine rn (cH @w0 @w1 @w2) ?_
    refine aj ?_
    rw [hin]
    refine rn (cH @w0 @w1 @w2) ?_
    simp [Za, lk]
   rw [Zc, hs, ZB, Go.Sort.insOuter, if_pos w1]
   exact ih (i + 1) _ (by omega) (by rw [mq, hd]) (by omega)
  ·exact ih i d (by omega) hd hi
theorem MN {H : Zb} {r g n a b : Nat} (hr : r < H.length) (hn : n ≤ 1000000) (hb : b ≤ n) (ha : a ≤ n) (d : Array V) (hd : d.size = n) :
 E X 143 [Ym r g n, .int .i64 a, .int .i64 b, .func 68 [] []] (hp H r g d) = some (.tup [], hp H r g (Go.Sort.insertionSort lt d a b)) := by
 rw [Go.Sort.insertionSort]
 obtain ⟨A, hA⟩ : ∃ A, A = a + 1 := ⟨_, rfl⟩
 rw [← hA]
 have w2 : IntKind.i64.wrap ((a : Int) + 1) = (A : Int) := wr
 obtain ⟨e', hl⟩ := EP (H := H) (r := r) (g := g) (n := n) (a := a) (b := b) hr hn hb b A d (by omega) hd (by omega)
 rw [Zz (X := X) _ Jn _ rfl rfl]; unfold Jn
 refine rn @w2 ?_
 refine aj ?_
 rw [hl]
 refine rn @w2 ?_
 simp [ZS, ZW, qc]
theorem Bn (xs : List V) : ∀ x ∈ xs.map V.d, Nr x := by
 intro x hx
 obtain ⟨v, _, rfl⟩ := List.mem_map.1 hx
 exact Qx v
def eV (n0 t sz : Nat) (h : Zb) (L : DV) (xs : List DV) : Prop :=
 (xs = [] ∧ L = .nils) ∨ ∃ r g, L = .row r g 0 xs.length false ∧ n0 ≤ r ∧ h[r]? = some (.row t sz g xs)
theorem eV.vw {n0 t sz : Nat} {h : Zb} {L : DV} {xs : List DV} (hr : eV n0 t sz h L xs) : vw h sz L = some xs := by
 rcases hr with ⟨rfl, rfl⟩ | ⟨r, g, rfl, _, h2⟩
 ·rfl
 ·simp [Go.Proofs.YtmbgfbomgbdjeaaGreatDoor.vw, h2]
theorem eV.ext {n0 t sz : Nat} {h : Zb} {L : DV} {xs : List DV} (hr : eV n0 t sz h L xs) (l : Zb) : eV n0 t sz (h ++ l) L xs := by
 rcases hr with h1 | ⟨r, g, h1, h2, h3⟩
 ·exact .inl h1
 ·exact .inr ⟨r, g, h1, h2, hle h3 l⟩
theorem eV.app {n0 t sz PT : Nat} {h : Zb} {L : DV} {xs ys : List DV} (hr : eV n0 t sz h L xs) (hn : n0 ≤ h.length) (hy : ys ≠ []) (hb : (xs.length + ys.length) * PT ≤ 140737488355328) :
 ∃ L' h', aW h t sz PT L xs ys = some (L', h') ∧ eV n0 t sz h' L' (xs ++ ys) ∧ h'.take n0 = h.take n0 ∧ h.length ≤ h'.length := by
 rcases hr with ⟨rfl, rfl⟩ | ⟨r, g, rfl, h2, h3⟩
 ·refine ⟨.row h.length 0 0 ys.length false, h ++ [.row t sz 0 ys], ?_, .inr ⟨h.length, 0, by simp, hn, by simp⟩, ?_, by simp⟩
  ·rw [aW, if_neg hy, if_pos hb]
  ·rw [List.take_append_of_le_length hn]
 ·have hl := (List.getElem?_eq_some_iff.1 h3).1
  refine ⟨.row r (g + 1) 0 (xs.length + ys.length) false, h.set r (.row t sz (g + 1) (xs ++ ys)), ?_, .inr ⟨r, g + 1, by simp, h2, List.getElem?_set_self hl⟩, ?_, by simp⟩
  ·rw [aW, if_neg hy, if_pos hb]
   simp [h3]
  ·rw [List.take_set_of_le h2]
theorem QI {h : Zb} {r g n : Nat} {xs : List V} (hx : xs ≠ []) (hv : vw h 4 (.row r g 0 n false) = some (xs.map V.d)) (hb : xs.length ≤ 1000000) : E X 87 [.row r g 0 n false] h = some (.fresh 56 4 (xs.map V.d), h) := by
 have q1 : bL ([] : List DV) h = some ([], h) := rfl
 have q2 : vw h 4 (.list 4 [] true) = some [] := rfl
 have q3 := Bn xs
 have q4 : aW h 56 4 40 (.list 4 [] true) [] (xs.map V.d) = some (.row h.length 0 0 xs.length false, h ++ [.row 56 4 0 (xs.map V.d)]) := by
  rw [aW, if_neg (by simpa using hx), if_pos (by simp; omega)]; simp
 rw [Zz (X := X) _ P8 _ rfl rfl]; unfold P8; refine UJ (cP @q1 @q2 @hv @q4) ?_; simp [Zn, ZS, ZW, go_sem, fin, aO, aJ, bq, cZ, d8, q1, q2, hv, q4, aM]
 rw [if_pos ⟨rfl, by simp, q3⟩]
def place (xs : List V) (v : V) : Nat := bs (fun i => (xs[i]?.map fun x => decide (ord x v ≥ 0)).getD false) 0 xs.length
theorem DX (p : Nat → Bool) (lo hi : Nat) (h : lo ≤ hi) : lo ≤ bs p lo hi ∧ bs p lo hi ≤ hi := by
 rw [bs]
 split
 ·split
  ·have := DX p lo ((lo + hi) / 2) (by omega); omega
  ·have := DX p ((lo + hi) / 2 + 1) hi (by omega); omega
 ·omega
termination_by hi - lo
theorem zy (xs : List V) (v : V) : place xs v ≤ xs.length := (DX _ _ _ (Nat.zero_le _)).2
def found (xs : List V) (v : V) : Bool := (xs[place xs v]?.map fun x => x.eqb v).getD false
theorem QH {h : Zb} {L : DV} {xs : List V} (v : V) (hL : ∀ l, vw (h ++ l) 4 L = some (xs.map V.d)) (hb : xs.length ≤ 1000000) : E X 89 [L, v.d] h = some (.tup [.int .i64 (place xs v : Nat), .bool (found xs v)], h) := by
 have e1 : E X 123 [L, .func 124 [] [.ref h.length 0]] (h ++ [HO.box 56 [.int .i64 v.k, .int .i64 v.n, .str v.s, .bool v.t]]) = some (.int .i64 (place xs v : Nat), h ++ [HO.box 56 [.int .i64 v.k, .int .i64 v.n, .str v.s, .bool v.t]]) :=
  MZ (p := fun x => decide (ord x v ≥ 0)) (hL _) hb (fun x _ => MX x v (t := 56) (by simp [DV.cells]))
 have hp := zy xs v
 by_cases hlt : place xs v < xs.length
 ·have w : found xs v = xs[place xs v].eqb v := by simp [found, List.getElem?_eq_getElem hlt]
  rw [Zz (X := X) _ Gz _ rfl rfl]; unfold Gz; exact Tx (cP @e1 @hL @hlt @w)
 ·have w : found xs v = false := by simp [found, List.getElem?_eq_none (Nat.le_of_not_lt hlt)]
  rw [Zz (X := X) _ Gz _ rfl rfl]; unfold Gz; exact rg (cP @e1 @hL @hlt @w)
def tab : ByteArray := ⟨#[0, 1, 2, 2, 3, 3, 3, 3, 4, 4, 4, 4, 4, 4, 4, 4, 5, 5, 5, 5, 5, 5, 5, 5, 5, 5, 5, 5, 5, 5, 5, 5, 6, 6, 6, 6, 6, 6, 6, 6, 6, 6, 6, 6, 6, 6, 6, 6, 6, 6, 6, 6, 6, 6, 6, 6, 6, 6, 6, 6, 6, 6, 6, 6, 7, 7, 7, 7, 7, 7, 7, 7, 7, 7, 7, 7, 7, 7, 7, 7, 7, 7, 7, 7, 7, 7, 7, 7, 7, 7, 7, 7, 7, 7, 7, 7, 7, 7, 7, 7, 7, 7, 7, 7, 7, 7, 7, 7, 7, 7, 7, 7, 7, 7, 7, 7, 7, 7, 7, 7, 7, 7, 7, 7, 7, 7, 7, 7, 8, 8, 8, 8, 8, 8, 8, 8, 8, 8, 8, 8, 8, 8, 8, 8, 8, 8, 8, 8, 8, 8, 8, 8, 8, 8, 8, 8, 8, 8, 8, 8, 8, 8, 8, 8, 8, 8, 8, 8, 8, 8, 8, 8, 8, 8, 8, 8, 8, 8, 8, 8, 8, 8, 8, 8, 8, 8, 8, 8, 8, 8, 8, 8, 8, 8, 8, 8, 8, 8, 8, 8, 8, 8, 8, 8, 8, 8, 8, 8, 8, 8, 8, 8, 8, 8, 8, 8, 8, 8, 8, 8, 8, 8, 8, 8, 8, 8, 8, 8, 8, 8, 8, 8, 8, 8, 8, 8, 8, 8, 8, 8, 8, 8, 8, 8, 8, 8, 8, 8, 8, 8, 8, 8, 8, 8, 8, 8]⟩
def Nn (T : ByteArray) : XC := .seq (.reg [⟨some 2, .mov (.c (.int .i64 0)), none, false⟩] [0, 2]) (.seq (.seq (.reg [⟨some 3, .mov (.t 0), none, false⟩, ⟨some 4, .bin .geq (.t 3) (.c (.int .u64 4294967296)), none, false⟩] [0, 2, 4]) (.cond (.t 4) (.seq (.reg [⟨some 5, .mov (.t 0), none, false⟩, ⟨some 6, .bin .shr (.t 5) (.c (.int .u64 32)), none, false⟩, ⟨some 0, .mov (.t 6), none, false⟩] [0]) (.reg [⟨some 2, .mov (.c (.int .i64 32)), none, false⟩] [0, 2])) .skip)) (.seq (.seq (.reg [⟨some 7, .mov (.t 0), none, false⟩, ⟨some 8, .bin .geq (.t 7) (.c (.int .u64 65536)), none, false⟩] [0, 2, 8]) (.cond (.t 8) (.seq (.reg [⟨some 9, .mov (.t 0), none, false⟩, ⟨some 10, .bin .shr (.t 9) (.c (.int .u64 16)), none, false⟩, ⟨some 0, .mov (.t 10), none, false⟩] [0, 2]) (.reg [⟨some 11, .mov (.t 2), none, false⟩, ⟨some 12, .bin .add (.t 11) (.c (.int .i64 16)), none, false⟩, ⟨some 2, .mov (.t 12), none, false⟩] [0, 2])) .skip)) (.seq (.seq (.reg [⟨some 13, .mov (.t 0), none, false⟩, ⟨some 14, .bin .geq (.t 13) (.c (.int .u64 256)), none, false⟩] [0, 2, 14]) (.cond (.t 14) (.seq (.reg [⟨some 15, .mov (.t 0), none, false⟩, ⟨some 16, .bin .shr (.t 15) (.c (.int .u64 8)), none, false⟩, ⟨some 0, .mov (.t 16), none, false⟩] [0, 2]) (.reg [⟨some 17, .mov (.t 2), none, false⟩, ⟨some 18, .bin .add (.t 17) (.c (.int .i64 8)), none, false⟩, ⟨some 2, .mov (.t 18), none, false⟩] [0, 2])) .skip)) (.seq (.reg [⟨some 19, .mov (.t 2), none, false⟩, ⟨some 20, .mov (.t 0), none, false⟩, ⟨some 21, .toint .u8 (.t 20), none, false⟩, ⟨some 22, .idxs (.c (.str T)) (.t 21), none, false⟩, ⟨some 23, .toint .i64 (.t 22), none, false⟩, ⟨some 24, .bin .add (.t 19) (.t 23), none, false⟩, ⟨some 2, .mov (.t 24), none, false⟩] [2]) .ret))))
theorem Mi : ∀ n < 256, tab.data.toList[n]? = some (UInt8.ofNat (Go.Sort.bitsLen n)) := by
 have h : (List.range 256).all (fun n => tab.data.toList[n]? == some (UInt8.ofNat (Go.Sort.bitsLen n))) = true := by decide +kernel
 intro n hn
 simpa using List.all_eq_true.1 h n (List.mem_range.2 hn)
theorem qG : ∀ n < 256, Go.Sort.bitsLen n < 9 := by
 have h : (List.range 256).all (fun n => decide (Go.Sort.bitsLen n < 9)) = true := by decide +kernel
 intro n hn
 simpa using List.all_eq_true.1 h n (List.mem_range.2 hn)
theorem zo (n : Nat) (hn : n < 256) (h : Zb) : E X 116 [.int .u64 n] h = some (.int .i64 (Go.Sort.bitsLen n : Nat), h) := by
 have w1 : ¬ ((4294967296 : Int) ≤ n) := by omega
 have w2 : ¬ ((65536 : Int) ≤ n) := by omega
 have w3 : ¬ ((256 : Int) ≤ n) := by omega
 have t1 := Mi n hn
 have t2 := qG n hn
 have w4 : IntKind.u8.wrap (n : Int) = n := by simp [IntKind.wrap, IntKind.bits, IntKind.signed]; omega
 have w5 : IntKind.i64.wrap ((UInt8.ofNat (Go.Sort.bitsLen n)).toNat : Int) = (Go.Sort.bitsLen n : Nat) := by
  rw [UInt8.toNat_ofNat', Nat.mod_eq_of_lt (by omega)]; exact wrap64 _ (by omega) (by omega)
 have w6 : IntKind.i64.wrap (Go.Sort.bitsLen n : Int) = Go.Sort.bitsLen n := wrap64 _ (by omega) (by omega)
 have w7 : Go.Sort.bitsLen n % 256 = Go.Sort.bitsLen n := by omega
 have t3 : tab.data[n]? = some (UInt8.ofNat (Go.Sort.bitsLen n)) := by rw [← Array.getElem?_toList]; exact t1
 rw [Zz (X := X) _ Qp _ rfl rfl]
 change ends _ _ (C X (Nn tab) _ _) = _
 unfold Nn
 refine rn (iF @w1 @w2 @w3 @t3 @w4 @w5 @w6 @w7) ?_
 exact re (iF @w1 @w2 @w3 @t3 @w4 @w5 @w6 @w7)
theorem J0 (n : Nat) (hn : n < 256) (h : Zb) : E X 74 [.int .u64 n] h = some (.int .i64 (Go.Sort.bitsLen n : Nat), h) := by
 have e := zo n hn
 rw [Zz (X := X) _ Qb _ rfl rfl]; unfold Qb; exact rg @e
def toS (ys vs : List V) : List DV := vs.map fun v => .int .i64 (place ys v : Nat)
theorem NF {H2 : Zb} {L RY : DV} {vs ys : List V} (hL : ∀ l, vw (H2 ++ l) 4 L = some (vs.map V.d)) (hY : ∀ l, vw (H2 ++ l) 4 RY = some (ys.map V.d)) (hb : vs.length ≤ 1000000) (hby : ys.length ≤ 1000000) :
 ∀ (k i : Nat) (T : DV) (l : Zb), vs.length - i ≤ k → i ≤ vs.length → eV H2.length 3 1 (H2 ++ l) T (toS ys (vs.take i)) →
  ∃ e' T' l', C X (.loop rT) [(4, RY), (5, T), (23, L), (24, .int .i64 vs.length), (25, .int .i64 i)] (H2 ++ l) = some (.exit 0, e', H2 ++ l') ∧ lk e' 4 = RY ∧ lk e' 5 = T' ∧ eV H2.length 3 1 (H2 ++ l') T' (toS ys vs) := by
 intro k
 induction k with
 | zero =>
  intro i T l hk hi hg
  have w0 : ¬ (i < vs.length) := by omega
  obtain rfl : i = vs.length := by omega
  rw [List.take_length] at hg
  rw [Zc]
  unfold rT
  refine rn @w0 ?_
  rw [Zw]
  exact ⟨_, _, _, rfl, by simp [Za, lk], by simp [Za, lk], hg⟩
 | succ k ih =>
  intro i T l hk hi hg
  by_cases w0 : i < vs.length
  ·obtain ⟨I, hI⟩ : ∃ I, I = i + 1 := ⟨_, rfl⟩
   have w1 : IntKind.i64.wrap ((i : Int) + 1) = (I : Int) := wr
   obtain ⟨v, hv⟩ : ∃ v, v = vs[i] := ⟨_, rfl⟩
   have ef : vs[i]? = some v := by rw [hv]; exact List.getElem?_eq_getElem w0
   have e1 : ∀ q, E X 89 [RY, v.d] (H2 ++ q) = some (.tup [.int .i64 (place ys v : Nat), .bool (found ys v)], H2 ++ q) := fun q => QH v (fun l => by rw [List.append_assoc]; exact hY _) hby
   have hg2 := hg.ext [HO.box 56 [.int .i64 v.k, .int .i64 v.n, .str v.s, .bool v.t]]
   obtain ⟨T', h', a1, a2, a3, a4⟩ := hg2.app (PT := 8) (ys := [.int .i64 (place ys v : Nat)]) (by simp) (by simp) (by simp [toS]; omega)
   obtain ⟨l', rfl⟩ : ∃ l', h' = H2 ++ l' := ⟨h'.drop H2.length, by
    have := List.take_append_drop H2.length h'
    rw [a3] at this
    rw [List.append_assoc, List.take_left] at this
    exact this.symm⟩
   have a5 := hg2.vw
   have Wy : eV H2.length 3 1 (H2 ++ l') T' (toS ys (vs.take I)) := by
    rw [hI, List.take_add_one, ef]; simpa [toS] using a2
   obtain ⟨e', T2, l2, c1, c2⟩ := ih I T' l' (by omega) (by omega) Wy
   have q1 : ∀ q : Zb, bL [DV.int .i64 (place ys v : Nat)] q = some ([.int .i64 (place ys v : Nat)], q) := fun q => rfl
   have q2 : Wc 1 (DV.int .i64 (place ys v : Nat)) := by simp [Wc, DV.cells, DV.one]
   have q3 : Nr (DV.int .i64 (place ys v : Nat)) := .int _ _
   have q4 : ∀ q, vw q 1 (.list 1 [DV.int .i64 (place ys v : Nat)] true) = some [.int .i64 (place ys v : Nat)] := fun q => rfl
   rw [List.append_assoc] at a1 a5
   have hs : C X rT [(4, RY), (5, T), (23, L), (24, .int .i64 vs.length), (25, .int .i64 i)] (H2 ++ l) = some (.norm, [(4, RY), (5, T'), (23, L), (24, .int .i64 vs.length), (25, .int .i64 I)], H2 ++ l') := by
    unfold rT
    refine UI (iG @w0 @w1 @hL @ef @e1 @q1 @q2 @q3 @q4 @a1 @a5 (Eq.symm hv)) ?_
    simp [Za, lk]
   exact ⟨e', T2, l2, by rw [Zc, hs, ZB]; exact c1, c2⟩
  ·exact ih i T l (by omega) hi hg
theorem Mh {H : Zb} {g : Nat} (d : Array V) (x : HO) (he : x = .row 56 4 g (d.toList.map V.d)) : H ++ [x] = hp (H ++ [x]) H.length g d := by
 subst he
 simp [hp, ZP]
theorem DF {H l : Zb} {ys : List V} {n : Nat} (hn : n = ys.length) {T : DV} {ts : List DV} (hT : eV (H.length + 1) 3 1 (H ++ [HO.row 56 4 0 (ys.map V.d)] ++ l) T ts) (ht : ts ≠ []) (hN : ∀ x ∈ ts, Nr x) :
 fin H (H ++ [HO.row 56 4 0 (ys.map V.d)] ++ l) [.row H.length 0 0 n false, T] = (.tup [.list 4 (ys.map V.d) false, .list 1 ts false], H) := by
 rcases hT with ⟨h1, _⟩ | ⟨r, g, rfl, h2, h3⟩
 ·exact absurd h1 ht
 have h4 : (H ++ [HO.row 56 4 0 (ys.map V.d)] ++ l)[H.length]? = some (HO.row 56 4 0 (ys.map V.d)) := by simp
 have h5 : ∀ x, ((H ++ [HO.row 56 4 0 (ys.map V.d)] ++ l).set H.length x)[r]? = some (.row 3 1 g ts) := fun x => by
  rw [List.getElem?_set_ne (by omega)]; exact h3
 have h6 : (H ++ [HO.row 56 4 0 (ys.map V.d)] ++ l).take H.length = H := by rw [List.append_assoc, List.take_left]
 have q0 := Bn ys
 rw [fin]
 ·rw [if_pos h6]
  have f1 : aJ H.length (H ++ [HO.row 56 4 0 (ys.map V.d)] ++ l) false (.row H.length 0 0 n false) = some (.list 4 (ys.map V.d) false, (H ++ [HO.row 56 4 0 (ys.map V.d)] ++ l).set H.length (.frz 56 4 0 (ys.map V.d))) := by
   rw [aJ]
   ·rw [aO, if_neg (by omega), h4]
    simp only
    rw [if_pos ⟨rfl, by simp [hn], q0⟩, if_neg (by simp), hn]
    simp [List.take_of_length_le]
   ·intro cs h; cases h
  have f2 : aJ H.length ((H ++ [HO.row 56 4 0 (ys.map V.d)] ++ l).set H.length (.frz 56 4 0 (ys.map V.d))) false (.row r g 0 ts.length false) = some (.list 1 ts false, ((H ++ [HO.row 56 4 0 (ys.map V.d)] ++ l).set H.length (.frz 56 4 0 (ys.map V.d))).set r (.frz 3 1 g ts)) := by
   rw [aJ]
   ·rw [aO, if_neg (by omega), h5]
    simp only
    rw [if_pos ⟨rfl, by simp, hN⟩, if_neg (by simp)]
    simp
   ·intro cs h; cases h
  simp only [bq, f1, f2]
 ·intro d h; cases h
theorem NU {h : Zb} {A B : DV} {xs ys : List Int} (hA : vw h 1 A = some (xs.map (.int .i64))) (hB : vw h 1 B = some (ys.map (.int .i64))) (hl : xs.length = ys.length) (hb : xs.length ≤ 1000000) :
 ∀ (k i : Nat), xs.length - i ≤ k → i ≤ xs.length → (C X (.loop oe) [(0, A), (1, B), (5, .int .i64 i)] h = some (.ret, [(4, .bool false)], h) ∧ xs.drop i ≠ ys.drop i) ∨ (∃ e', C X (.loop oe) [(0, A), (1, B), (5, .int .i64 i)] h = some (.exit 0, e', h) ∧ xs.drop i = ys.drop i) := by
 intro k
 induction k with
 | zero =>
  intro i hk hi
  obtain rfl : i = xs.length := by omega
  right
  rw [Zc]
  unfold oe
  refine rn @hA ?_
  rw [Zw]
  exact ⟨_, rfl, by rw [List.drop_length, hl, List.drop_length]⟩
 | succ k ih =>
  intro i hk hi
  by_cases w0 : i < xs.length
  ·have oI : i < ys.length := by omega
   obtain ⟨I, hI⟩ : ∃ I, I = i + 1 := ⟨_, rfl⟩
   have w1 : IntKind.i64.wrap ((i : Int) + 1) = (I : Int) := wr
   have d1 : xs.drop i = xs[i] :: xs.drop (i + 1) := List.drop_eq_getElem_cons w0
   have d2 : ys.drop i = ys[i] :: ys.drop (i + 1) := List.drop_eq_getElem_cons oI
   by_cases he : xs[i] = ys[i]
   ·have hs : C X oe [(0, A), (1, B), (5, .int .i64 i)] h = some (.norm, [(0, A), (1, B), (5, .int .i64 I)], h) := by
     unfold oe
     have he' : (xs[i] != ys[i]) = false := by simpa using he
     refine ah (gJ @hA @hB @w0 @oI @w1 @he') ?_
     simp [Za, lk]
    rw [Zc, hs, ZB]
    rcases ih I (by omega) (by omega) with ⟨c1, c2⟩ | ⟨e', c1, c2⟩
    ·refine .inl ⟨c1, fun h => ?_⟩
     rw [d1, d2] at h
     injection h with _ h
     exact c2 (by rw [hI]; exact h)
    ·exact .inr ⟨e', c1, by rw [d1, d2, he, ← hI, c2]⟩
   ·left
    have he' : (xs[i] != ys[i]) = true := by simpa using he
    rw [Zc]
    unfold oe
    refine ah (gJ @hA @hB @w0 @oI @w1 @he') ?_
    rw [aR]
    exact ⟨by simp [Za, lk], by intro h; rw [d1, d2] at h; injection h with h; exact he h⟩
  ·exact ih i (by omega) hi
theorem vl {h : Zb} {A B : DV} {xs ys : List Int} (hA : vw h 1 A = some (xs.map (.int .i64))) (hB : vw h 1 B = some (ys.map (.int .i64))) (hb : xs.length ≤ 1000000) : E X 16 [A, B] h = some (.bool (decide (xs = ys)), h) := by
 by_cases hl : xs.length = ys.length
 ·have hl' : ((xs.length : Int) != ys.length) = false := by simp [hl]
  have cO : ((ys.length : Int) != ys.length) = false := by simp
  rw [Zz (X := X) _ G5 _ rfl rfl]; unfold G5
  refine rn (cP @hA @hB @hl' @cO) ?_
  rcases NU hA hB hl hb xs.length 0 (by omega) (by omega) with ⟨c1, c2⟩ | ⟨e', c1, c2⟩
  ·rw [show ((0 : Nat) : Int) = 0 from rfl] at c1
   refine aj ?_
   rw [c1]
   refine rn (aL @hA @hB) ?_
   simp at c2
   exact re @c2
  ·rw [show ((0 : Nat) : Int) = 0 from rfl] at c1
   refine aj ?_
   rw [c1]
   refine rn (aL @hA @hB) ?_
   simp at c2
   exact re @c2
 ·have hl' : ((xs.length : Int) != ys.length) = true := by simp only [bne_iff_ne, ne_eq]; omega
  have hne : xs ≠ ys := fun h => hl (by rw [h])
  rw [Zz (X := X) _ G5 _ rfl rfl]; unfold G5; exact rg (cP @hA @hB @hl' @hne)
end Go.Proofs.YtmbgfbomgbdjeaaGreatDoor
namespace Go.Proofs.YtmbgfbomgbdjeaaGreatDoor
set_option linter.unusedVariables false
set_option linter.unusedSimpArgs false
set_option maxRecDepth 10000
end Go.Proofs.YtmbgfbomgbdjeaaGreatDoor
namespace Go.Proofs.YtmbgfbomgbdjeaaGreatDoor
attribute [local go_sem] ZN ZG ZF ZH Zt Zh Zp Zk Zm Ze Zf Zl Zu Zv ZI Zs Zi ZE Zy Zx ZX ZA Yp put lk Od.v Za Zg Zo ax Yg Yh Yd ay eqk DV.isU DV.cells ae ZO Yb ZP Zr splice ZR af ZY eqs bJ cr bY bz cg bH bw bF bZ bA cm bE bG bC cu cw bW Yx Yy
attribute [local go_sem ↓] Zj
set_option linter.unusedVariables false
set_option linter.unusedSimpArgs false
set_option maxRecDepth 10000
def v7 : V := ⟨1, 7, ⟨#[]⟩, false⟩
def v3 : V := ⟨1, 3, ⟨#[]⟩, false⟩
def Da (n : Int) : Int := if n < 0 then 0 else if n > 4096 then 4096 else n
theorem Mw (n : Int) (h : Zb) : E X 57 [.int .i64 n] h = some (.ref (h.length + 1) 0, h ++ [.map 0 0 [], .box 117 [.int .i64 (Da n), .nils, .map h.length]]) := by
 have e := Q5 n h
 rw [e]
 unfold Da
 by_cases h1 : n < 0
 ·simp [h1]
 ·simp [h1]
end Go.Proofs.YtmbgfbomgbdjeaaGreatDoor
