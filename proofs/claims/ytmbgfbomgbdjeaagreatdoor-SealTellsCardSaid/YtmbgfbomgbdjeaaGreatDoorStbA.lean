/- Ideal runs. -/
import Derived.Test.YtmbgfbomgbdjeaaGreatDoorStep
import Derived.Test.YtmbgfbomgbdjeaaGreatDoorNod
import Derived.Test.YtmbgfbomgbdjeaaGreatDoorPlainB
namespace Go.Proofs.YtmbgfbomgbdjeaaGreatDoor
attribute [local go_sem] ZK ZF ZE ZG Zs Zi Zp Zl Zn Ze Zf Zm Zt Zu ZH Zr Zj ZD Zz Zy ZW ZA Yo put lk Od.v Za Zg Zo aj Yd Ye Yc au eqk DV.isU DV.cells ae ZP Ya ZO Zq splice ZQ af ZX eqs bh bV bQ aV bS bg aU aZ bR aW bU aY bf aX bW bY bP YA YB
attribute [local go_sem ↓] Zk
set_option linter.unusedVariables false
set_option linter.unusedSimpArgs false
set_option maxRecDepth 10000
def hI (H : Zb) (r g : Nat) (l : List Nat) : Zb := H.set r (.row 3 1 g (l.map iD))
def eN (l : List Nat) (i : Nat) : Nat := l.getD i 0
def sN (l : List Nat) (i x : Nat) : List Nat := l.set i x
theorem nU (l : List Nat) (i x : Nat) : (sN l i x).length = l.length := by simp [sN]
theorem jG {l A B : List Nat} {x i : Nat} (h : l = A ++ x :: B) (hi : i = A.length) : eN l i = x := by
 subst h; subst hi; simp [eN, List.getD_eq_getElem?_getD]
theorem yH {l A B : List Nat} {x i : Nat} (y : Nat) (h : l = A ++ x :: B) (hi : i = A.length) : sN l i y = A ++ y :: B := by
 subst h; subst hi; simp [sN]
theorem iU {H : Zb} {r n : Nat} (g : Nat) (l : List Nat) (hr : r < H.length) (hl : l.length = n) : vw (hI H r g l) 1 (Ym r g n) = some (l.map iD) := by
 subst hl; simp [vw, hI, List.getElem?_set_self hr, List.take_of_length_le]
theorem iB {H : Zb} {r n : Nat} (g : Nat) (l : List Nat) (hr : r < H.length) (hl : l.length = n) {i : Nat} (hi : i < n) : aG (hI H r g l) false 1 (.elem (Ym r g n) 1 i 0) = some (.int .i64 (eN l i : Nat)) := by
 rw [aG, iU g l hr hl]
 subst hl
 simp [aj, DV.cells, eN, List.getD_eq_getElem?_getD, hi]
theorem o6 {H : Zb} {r n : Nat} (g : Nat) (l : List Nat) (hr : r < H.length) (hl : l.length = n) {i : Nat} (hi : i < n) (x : Nat) : stx (hI H r g l) 1 (.elem (Ym r g n) 1 i 0) (.int .i64 (x : Nat)) = some (hI H r g (sN l i x)) := by
 subst hl
 have h1 : (hI H r g l)[r]? = some (.row 3 1 g (l.map iD)) := by simp [hI, List.getElem?_set_self hr]
 have h2 : (l.map iD)[i]? = some (iD (eN l i)) := by simp [eN, List.getD_eq_getElem?_getD, hi]
 rw [stx, if_pos (by simp [DV.cells, DV.one])]
 simp only [h1]
 rw [if_pos (by simp [hi])]
 simp only [Nat.zero_add, h2]
 simp [pz, DV.cells, DV.one, splice, hI, sN]
theorem Fp (H : Zb) (r g : Nat) (d : List Nat) : (hI H r g d).length = H.length := by simp [hI]
theorem jA (H : Zb) (r g : Nat) (d d' : List Nat) : fin (hI H r g d) (hI H r g d') [] = (.tup [], hI H r g d') := by
 have h1 : (hI H r g d').take (hI H r g d).length = hI H r g d' := by
  rw [Fp, ← Fp H r g d']; exact List.take_length
 rw [fin, h1]
 ·split
  ·rename_i h2; simp only [bJ]; rw [h2]
  ·rfl
 ·intro d h; cases h
theorem Js {l A B D : List Nat} {x y i j : Nat} (h : l = A ++ x :: B ++ y :: D) (hi : i = A.length) (hj : j = A.length + 1 + B.length) : sN (sN l i y) j x = A ++ y :: B ++ x :: D ∧ sN (sN l j x) i y = A ++ y :: B ++ x :: D ∧ eN l i = x ∧ eN l j = y := by
 have h1 : l = A ++ x :: (B ++ y :: D) := by rw [h]; simp
 have h2 : l = (A ++ x :: B) ++ y :: D := h
 have e2 : j = (A ++ x :: B).length := by rw [hj]; simp; omega
 have e3 : j = (A ++ y :: B).length := by rw [hj]; simp; omega
 refine ⟨?_, ?_, jG h1 hi, jG h2 e2⟩
 ·rw [yH y h1 hi]
  exact yH (l := A ++ y :: (B ++ y :: D)) x (show A ++ y :: (B ++ y :: D) = (A ++ y :: B) ++ y :: D by simp) e3
 ·rw [yH x h2 e2]
  rw [yH (l := A ++ x :: B ++ x :: D) (A := A) (x := x) (B := B ++ x :: D) y (by simp) hi]
  simp
theorem K9 {H : Zb} {r g n a b k : Nat} {P M Q : List Nat} (hr : r < H.length) (hn : n ≤ 1000000) :
 ∀ (X2 Y1 X1 Y2 l : List Nat) (i : Nat), l = P ++ (Y1 ++ X2) ++ M ++ (X1 ++ Y2) ++ Q → l.length = n → X2.length = Y2.length → X1.length = Y1.length → i = X1.length → k = X1.length + X2.length → a = P.length → b = P.length + k + M.length → ∃ ex, C X (.loop pP) [(0, Ym r g n), (1, .int .i64 a), (2, .int .i64 b), (3, .int .i64 k), (10, .int .i64 i)] (hI H r g l) =
  some (.exit 0, ex, hI H r g (P ++ (Y1 ++ Y2) ++ M ++ (X1 ++ X2) ++ Q)) := by
 intro X2
 induction X2 with
 | nil =>
  intro Y1 X1 Y2 l i hl ax h1 h2 hi hk ha hb
  obtain rfl : Y2 = [] := List.eq_nil_of_length_eq_zero (by simpa using h1.symm)
  have c0 : ¬ i < k := by rw [hk, hi]; simp
  have c1 : ¬ (i : Int) < (k : Int) := by omega
  rw [Zc]
  unfold pP
  refine rn (aD @c0 @c1) ?_
  rw [Zx, hl]
  exact ⟨_, rfl⟩
 | cons x X2 ih =>
  intro Y1 X1 Y2 l i hl ax h1 h2 hi hk ha hb
  cases Y2 with
  | nil => simp at h1
  | cons y Y2 =>
   have hlen := congrArg List.length hl
   simp only [List.length_append, List.length_cons] at hlen h1 hk
   obtain ⟨p, hp⟩ : ∃ p, p = a + i := ⟨_, rfl⟩
   obtain ⟨q, hq⟩ : ∃ q, q = b + i := ⟨_, rfl⟩
   obtain ⟨I, cZ⟩ : ∃ I, I = i + 1 := ⟨_, rfl⟩
   have c0 : i < k := by omega
   have c1 : (i : Int) < (k : Int) := by omega
   have w1 : IntKind.i64.wrap ((a : Int) + i) = (p : Int) := wr
   have w2 : IntKind.i64.wrap ((b : Int) + i) = (q : Int) := wr
   have w3 : IntKind.i64.wrap ((i : Int) + 1) = (I : Int) := wr
   have p1 : p < n := by omega
   have q1 : q < n := by omega
   obtain ⟨s1, _, s2, s3⟩ := Js (l := l) (A := P ++ Y1) (B := X2 ++ M ++ X1) (D := Y2 ++ Q) (x := x) (y := y) (i := p) (j := q) (by rw [hl]; simp) (by simp; omega) (by simp; omega)
   obtain ⟨l', hl'⟩ : ∃ l', l' = sN l p y := ⟨_, rfl⟩
   have HN : l'.length = n := by rw [hl', nU, ax]
   have r0 := iU (H := H) g l hr ax
   have r1 := iB (H := H) g l hr ax p1
   have r2 := iB (H := H) g l hr ax q1
   have r3 := o6 (H := H) g l hr ax p1 y
   have r4 := o6 (H := H) g l' hr HN q1 x
   have r5 := iU (H := H) g l' hr HN
   rw [s2] at r1
   rw [s3] at r2
   rw [← hl'] at r3
   have hs : C X pP [(0, Ym r g n), (1, .int .i64 a), (2, .int .i64 b), (3, .int .i64 k), (10, .int .i64 i)] (hI H r g l) = some (.norm, [(0, Ym r g n), (1, .int .i64 a), (2, .int .i64 b), (3, .int .i64 k), (10, .int .i64 I)], hI H r g (sN l' q x)) := by
    unfold pP
    refine rn (mE @c0 @c1 @w1 @w2 @w3 @p1 @q1 @ax @HN @r0 @r1 @r2 @r3 @r4 @r5) ?_
    simp [Za, lk]
   rw [Zc, hs, ZB, hl', s1]
   obtain ⟨ex, h⟩ := ih (Y1 ++ [y]) (X1 ++ [x]) Y2 (P ++ Y1 ++ y :: (X2 ++ M ++ X1) ++ x :: (Y2 ++ Q)) I (by simp) (by simp; omega) (by omega) (by simp [h2]) (by simp; omega) (by simp; omega) ha hb
   refine ⟨ex, ?_⟩
   rw [h]
   simp
theorem yY {H : Zb} {r g n : Nat} {F : DV} (hr : r < H.length) (hn : n ≤ 1000000) {P A M B Q l : List Nat} {a b k : Nat} (hl : l = P ++ A ++ M ++ B ++ Q) (ax : l.length = n) (fC : A.length = B.length) (ha : a = P.length) (hb : b = P.length + A.length + M.length) (hk : k = A.length) :
 E X 151 [Ym r g n, .int .i64 a, .int .i64 b, .int .i64 k, F] (hI H r g l) = some (.tup [], hI H r g (P ++ B ++ M ++ A ++ Q)) := by
 obtain ⟨ex, h⟩ := K9 (H := H) (r := r) (g := g) (n := n) (a := a) (b := b) (k := k) (P := P) (M := M) (Q := Q) hr hn A [] [] B l 0 (by simpa using hl) ax fC rfl rfl (by simpa using hk) ha (by omega)
 rw [Zv (X := X) _ IC _ rfl rfl]; unfold IC
 refine rn trivial ?_
 refine Yy ?_
 rw [show (DV.int .i64 0) = DV.int .i64 ((0 : Nat) : Int) from rfl, h]
 refine rn trivial ?_
 simp [ZS, ZV, jA]
theorem Lj {H : Zb} {r g n m : Nat} {F : DV} (hr : r < H.length) (hn : n ≤ 1000000) :
 ∀ (k : Nat) (P A B Q l : List Nat) (i j : Nat), i + j ≤ k → l = P ++ A ++ B ++ Q → l.length = n → i = A.length → j = B.length → m = P.length + i → 0 < i → 0 < j →
  ∃ ex P' A' B' Q' l' i', C X (.loop kW) [(0, Ym r g n), (2, .int .i64 m), (4, F), (10, .int .i64 i), (11, .int .i64 j)] (hI H r g l) = some (.exit 0, (0, Ym r g n) :: (2, .int .i64 m) :: (4, F) :: (10, .int .i64 (i' : Nat)) :: ex, hI H r g l') ∧ l' = P' ++ A' ++ B' ++ Q' ∧ l'.length = n ∧ i' = A'.length ∧ i' = B'.length ∧ m = P'.length + i' ∧ P' ++ B' ++ A' ++ Q' = P ++ B ++ A ++ Q := by
 intro k
 induction k with
 | zero => intro P A B Q l i j hk hl ax hi hj hm h0 h1; omega
 | succ k ih =>
  intro P A B Q l i j hk hl ax hi hj hm h0 h1
  have hlen := congrArg List.length hl
  simp only [List.length_append] at hlen
  obtain ⟨p, hp⟩ : ∃ p, p = m - i := ⟨_, rfl⟩
  have w1 : IntKind.i64.wrap ((m : Int) - i) = (p : Int) := wr
  by_cases c : i = j
  ·have c0 : (i : Int) = (j : Int) := by omega
   have cb : ((i : Int) != (j : Int)) = false := by rw [c0]; simp
   refine ⟨[(11, .int .i64 (j : Nat)), (20, .bool false)], P, A, B, Q, l, i, ?_, hl, ax, hi, by omega, hm, rfl⟩
   rw [Zc]
   unfold kW
   refine rn @cb ?_
   rw [Zx]
   simp [Za, lk, c]
  have c0 : ¬ (i : Int) = (j : Int) := by omega
  have cb : ((i : Int) != (j : Int)) = true := bne_iff_ne.2 c0
  by_cases d : j < i
  ·have d0 : (j : Int) < (i : Int) := by omega
   obtain ⟨I, cZ⟩ : ∃ I, I = i - j := ⟨_, rfl⟩
   have w2 : IntKind.i64.wrap ((i : Int) - j) = (I : Int) := wr
   obtain ⟨A1, A2, rfl, dV⟩ : ∃ A1 A2, A = A1 ++ A2 ∧ A1.length = j := ⟨A.take j, A.drop j, (List.take_append_drop _ _).symm, by rw [List.length_take]; omega⟩
   simp only [List.length_append] at hi hlen
   have e := yY (H := H) (r := r) (g := g) (n := n) (F := F) hr hn (P := P) (A := A1) (M := A2) (B := B) (Q := Q) (l := l) (a := p) (b := m) (k := j) (by rw [hl]; simp) ax (by omega) (by omega) (by omega) (by omega)
   obtain ⟨l2, cA⟩ : ∃ l2, l2 = P ++ B ++ A2 ++ A1 ++ Q := ⟨_, rfl⟩
   rw [← cA] at e
   have hs : C X kW [(0, Ym r g n), (2, .int .i64 m), (4, F), (10, .int .i64 i), (11, .int .i64 j)] (hI H r g l) = some (.norm, [(0, Ym r g n), (2, .int .i64 m), (4, F), (10, .int .i64 I), (11, .int .i64 j)], hI H r g l2) := by
    unfold kW
    refine rn (eO @cb @d @d0 @w1 @w2 @e) ?_
    simp [Za, lk]
   rw [Zc, hs, ZB]
   obtain ⟨ex, P', A', B', Q', l', i', h2, h3, h4, h5, h6, h7, h8⟩ := ih (P ++ B) A2 A1 Q l2 I j (by omega) (by rw [cA]) (by rw [cA]; simp; omega) (by omega) (by omega) (by simp; omega) (by omega) h1
   exact ⟨ex, P', A', B', Q', l', i', h2, h3, h4, h5, h6, h7, by rw [h8]; simp⟩
  ·have d0 : ¬ (j : Int) < (i : Int) := by omega
   obtain ⟨J, hJ⟩ : ∃ J, J = j - i := ⟨_, rfl⟩
   obtain ⟨s, hs0⟩ : ∃ s, s = m + j := ⟨_, rfl⟩
   obtain ⟨t, ht⟩ : ∃ t, t = s - i := ⟨_, rfl⟩
   have w2 : IntKind.i64.wrap ((j : Int) - i) = (J : Int) := wr
   have w3 : IntKind.i64.wrap ((m : Int) + j) = (s : Int) := wr
   have w4 : IntKind.i64.wrap ((s : Int) - i) = (t : Int) := wr
   obtain ⟨B1, B2, rfl, fQ⟩ : ∃ B1 B2, B = B1 ++ B2 ∧ B1.length = J := ⟨B.take J, B.drop J, (List.take_append_drop _ _).symm, by rw [List.length_take]; omega⟩
   simp only [List.length_append] at hj hlen
   have e := yY (H := H) (r := r) (g := g) (n := n) (F := F) hr hn (P := P) (A := A) (M := B1) (B := B2) (Q := Q) (l := l) (a := p) (b := t) (k := i) (by rw [hl]; simp) ax (by omega) (by omega) (by omega) (by omega)
   obtain ⟨l2, cA⟩ : ∃ l2, l2 = P ++ B2 ++ B1 ++ A ++ Q := ⟨_, rfl⟩
   rw [← cA] at e
   have hs : C X kW [(0, Ym r g n), (2, .int .i64 m), (4, F), (10, .int .i64 i), (11, .int .i64 j)] (hI H r g l) = some (.norm, [(0, Ym r g n), (2, .int .i64 m), (4, F), (10, .int .i64 i), (11, .int .i64 J)], hI H r g l2) := by
    unfold kW
    refine rn (ga @cb @d @d0 @w1 @w2 @w3 @w4 @e) ?_
    simp [Za, lk]
   rw [Zc, hs, ZB]
   obtain ⟨ex, P', A', B', Q', l', i', h2, h3, h4, h5, h6, h7, h8⟩ := ih P B2 B1 (A ++ Q) l2 i J (by omega) (by rw [cA]; simp) (by rw [cA]; simp; omega) (by omega) (by omega) (by omega) h0 (by omega)
   exact ⟨ex, P', A', B', Q', l', i', h2, h3, h4, h5, h6, h7, by rw [h8]; simp⟩
theorem Mx {H : Zb} {r g n : Nat} {F : DV} (hr : r < H.length) (hn : n ≤ 1000000) {P A B Q l : List Nat} {a m b : Nat} (hl : l = P ++ A ++ B ++ Q) (ax : l.length = n) (ha : a = P.length) (hm : m = P.length + A.length) (hb : b = P.length + A.length + B.length) (h0 : 0 < A.length) (h1 : 0 < B.length) :
 E X 125 [Ym r g n, .int .i64 a, .int .i64 m, .int .i64 b, F] (hI H r g l) = some (.tup [], hI H r g (P ++ B ++ A ++ Q)) := by
 have hlen := congrArg List.length hl
 simp only [List.length_append] at hlen
 obtain ⟨i, hi⟩ : ∃ i, i = A.length := ⟨_, rfl⟩
 obtain ⟨j, hj⟩ : ∃ j, j = B.length := ⟨_, rfl⟩
 have w1 : IntKind.i64.wrap ((m : Int) - a) = (i : Int) := wr
 have w2 : IntKind.i64.wrap ((b : Int) - m) = (j : Int) := wr
 obtain ⟨ex, P', A', B', Q', l', i', h2, h3, h4, h5, h6, h7, h8⟩ := Lj (H := H) (r := r) (g := g) (n := n) (m := m) (F := F) hr hn (i + j) P A B Q l i j (Nat.le_refl _) hl ax hi hj (by omega) (by omega) (by omega)
 have Rf := congrArg List.length h3
 simp only [List.length_append] at Rf
 obtain ⟨p, hp⟩ : ∃ p, p = m - i' := ⟨_, rfl⟩
 have w3 : IntKind.i64.wrap ((m : Int) - i') = (p : Int) := wr
 have e := yY (H := H) (r := r) (g := g) (n := n) (F := F) hr hn (P := P') (A := A') (M := []) (B := B') (Q := Q') (l := l') (a := p) (b := m) (k := i') (by rw [h3]; simp) h4 (by omega) (by omega) (by simp; omega) (by omega)
 have h9 : P' ++ B' ++ [] ++ A' ++ Q' = P ++ B ++ A ++ Q := by rw [← h8]; simp
 rw [h9] at e
 obtain ⟨l2, cA⟩ : ∃ l2, l2 = P ++ B ++ A ++ Q := ⟨_, rfl⟩
 rw [← cA] at e ⊢
 rw [Zv (X := X) _ I0 _ rfl rfl]; unfold I0
 refine rn (aD @w1 @w2) ?_
 refine Yy ?_
 rw [h2]
 refine rn (aD @w3 @e) ?_
 simp [ZS, ZV, jA]
structure CmpI (H : Zb) (r g n f : Nat) (S : DV) (c : Nat → Nat → Int) : Prop where
 run : ∀ (l : List Nat) (i k : Nat), i < n → k < n → E X f [S, .int .i64 (i : Nat), .int .i64 (k : Nat)] (hI H r g l) = some (.int .i64 (c i k), hI H r g l)
 anti : ∀ x y, c y x < 0 ↔ 0 < c x y
 trans : ∀ x y z, c x y ≤ 0 → c y z ≤ 0 → c x z ≤ 0
def Lx (c : Nat → Nat → Int) (x y : Nat) : Prop := c x y < 0 ∨ (c x y = 0 ∧ x < y)
theorem Tv {P W T : List Nat} {x y q : Nat} (h : q ∈ P ++ W ++ x :: [] ++ y :: T) : q ∈ P ++ (W ++ [y]) ++ x :: T := by grind
theorem Tt {P W1 W2 U Q : List Nat} {x q : Nat} (h : q ∈ P ++ W1 ++ x :: W2 ++ (U ++ Q)) : q ∈ P ++ (W1 ++ W2) ++ (x :: U) ++ Q := by grind
section
variable {H : Zb} {r g n f : Nat} {S : DV} {c : Nat → Nat → Int}
theorem CmpI.zero (h : CmpI H r g n f S c) {x y : Nat} (h0 : c x y = 0) : c y x = 0 := by
 have h1 := h.anti x y
 have h2 := h.anti y x
 omega
theorem CmpI.lxt (h : CmpI H r g n f S c) {x y z : Nat} (h1 : Lx c x y) (h2 : Lx c y z) : Lx c x z := by
 have a1 : c x y ≤ 0 := by unfold Lx at h1; omega
 have a2 : c y z ≤ 0 := by unfold Lx at h2; omega
 have a3 := h.trans _ _ _ a1 a2
 by_cases e : c x z = 0
 ·have e1 := h.zero e
  have a4 := h.trans z x y (by omega) a1
  have a5 := h.trans y z x a2 (by omega)
  have b1 := h.anti y z
  have b2 := h.anti z y
  have b3 := h.anti x y
  have b4 := h.anti y x
  right
  unfold Lx at h1 h2
  omega
 ·left; omega
theorem CmpI.later (h : CmpI H r g n f S c) {x y : Nat} (hxy : x < y) (h1 : ¬ c y x < 0) : Lx c x y := by
 have b1 := h.anti x y
 have b2 := h.anti y x
 unfold Lx
 omega
theorem G6 (hC : CmpI H r g n f S c) (hr : r < H.length) (hn : n ≤ 1000000) {P : List Nat} {x a b i : Nat} (ha : a = P.length) :
 ∀ (k : Nat) (W T l : List Nat) (j : Nat), W.length = k → l = P ++ W ++ x :: T → l.length = n → (∀ y ∈ l, y < n) → j = P.length + k →
  ∃ y z W1 W2 l', C X (.loop pK) [(0, Ym r g n), (1, .int .i64 a), (2, .int .i64 b), (3, .func f [S] []), (8, .int .i64 i), (9, .int .i64 j)] (hI H r g l) =
   some (.exit 2, [(0, Ym r g n), (1, .int .i64 a), (2, .int .i64 b), (3, .func f [S] []), (8, .int .i64 i), (9, y), (34, z)], hI H r g l') ∧ W = W1 ++ W2 ∧ l' = P ++ W1 ++ x :: W2 ++ T ∧ (∀ y ∈ W2, c x y < 0) ∧ (∀ V y, W1 = V ++ [y] → ¬ c x y < 0) := by
 intro k
 induction k with
 | zero =>
  intro W T l j hW hl ax hlt hj
  obtain rfl := List.eq_nil_of_length_eq_zero hW
  have w0 : ¬ a < j := by omega
  have w1 : ¬ (a : Int) < (j : Int) := by omega
  refine ⟨.int .i64 j, .bool false, [], [], l, ?_, rfl, by simpa using hl, (fun y hy => by cases hy), (fun V y h => by cases V <;> simp at h)⟩
  rw [Zc]
  unfold pK
  refine rn (aD @w0 @w1) ?_
  rw [Zx]
  simp [Za, lk]
 | succ k ih =>
  intro W T l j hW hl ax hlt hj
  rcases List.eq_nil_or_concat W with rfl | ⟨W0, y, rfl⟩
  ·simp at hW
  rw [List.concat_eq_append] at *
  simp only [List.length_append, List.length_cons, List.length_nil] at hW
  have hlen := congrArg List.length hl
  simp only [List.length_append, List.length_cons, List.length_nil] at hlen
  obtain ⟨J, hJ⟩ : ∃ J, J = j - 1 := ⟨_, rfl⟩
  have w0 : a < j := by omega
  have w1 : (a : Int) < (j : Int) := by omega
  have w2 : IntKind.i64.wrap ((j : Int) - 1) = (J : Int) := wr
  have j1 : j < n := by omega
  have j2 : J < n := by omega
  obtain ⟨_, s1, s2, s3⟩ := Js (l := l) (A := P ++ W0) (B := []) (D := T) (x := y) (y := x) (i := J) (j := j) (by rw [hl]; simp) (by simp; omega) (by simp; omega)
  have hy : y < n := hlt y (by rw [hl]; simp)
  have hx : x < n := hlt x (by rw [hl]; simp)
  have e := hC.run l x y hx hy
  have r0 := iU (H := H) g l hr ax
  have r1 := iB (H := H) g l hr ax j1
  have r2 := iB (H := H) g l hr ax j2
  rw [s3] at r1
  rw [s2] at r2
  by_cases d : c x y < 0
  ·obtain ⟨l2, cA⟩ : ∃ l2, l2 = sN l j y := ⟨_, rfl⟩
   have eZ : l2.length = n := by rw [cA, nU, ax]
   have r3 := o6 (H := H) g l hr ax j1 y
   have r4 := o6 (H := H) g l2 hr eZ j2 x
   have r5 := iU (H := H) g l2 hr eZ
   rw [← cA] at r3 s1
   have hs : C X pK [(0, Ym r g n), (1, .int .i64 a), (2, .int .i64 b), (3, .func f [S] []), (8, .int .i64 i), (9, .int .i64 j)] (hI H r g l) = some (.norm, [(0, Ym r g n), (1, .int .i64 a), (2, .int .i64 b), (3, .func f [S] []), (8, .int .i64 i), (9, .int .i64 J)], hI H r g (sN l2 J x)) := by
    unfold pK
    refine rn (mE @w0 @w1 @w2 @j1 @j2 @e @ax @eZ @d @r0 @r1 @r2 @r3 @r4 @r5) ?_
    simp [Za, lk]
   obtain ⟨y', z', W1, W2, l', h1, h2, h3, h4, h5⟩ := ih W0 (y :: T) (sN l2 J x) J (by omega) (by rw [s1]; simp) (by rw [nU, eZ]) (by
    rw [s1]; intro q hq; apply hlt; rw [hl]; exact Tv hq) (by omega)
   rw [Zc, hs, ZB]
   exact ⟨y', z', W1, W2 ++ [y], l', h1, by rw [h2]; simp, by rw [h3]; simp, (fun q hq => by
    rcases List.mem_append.1 hq with h | h
    ·exact h4 q h
    ·rw [List.mem_singleton.1 h]; exact d), h5⟩
  ·refine ⟨.int .i64 j, .bool false, W0 ++ [y], [], l, ?_, by simp, by rw [hl]; simp, (fun y hy => by cases hy), fun V q hq => ?_⟩
   ·rw [Zc]
    unfold pK
    refine rn (cP @w0 @w1 @w2 @j1 @j2 @e @ax @d @r0 @r1 @r2) ?_
    rw [Zx]
    simp [Za, lk]
   ·have := List.append_inj_right' hq rfl
    injection this with h1 _
    rw [← h1]; exact d
theorem CK (hC : CmpI H r g n f S c) {x : Nat} {W1 W2 : List Nat} (hs : (W1 ++ W2).Pairwise (Lx c)) (hx : ∀ y ∈ W1 ++ W2, y < x) (h2 : ∀ y ∈ W2, c x y < 0) (h1 : ∀ V y, W1 = V ++ [y] → ¬ c x y < 0) : (W1 ++ x :: W2).Pairwise (Lx c) := by
 rw [List.pairwise_append] at hs ⊢
 obtain ⟨a1, a2, a3⟩ := hs
 have b1 : ∀ y ∈ W1, Lx c y x := by
  rcases List.eq_nil_or_concat W1 with rfl | ⟨V, z, rfl⟩
  ·intro y hy; cases hy
  rw [List.concat_eq_append] at *
  have hz : Lx c z x := hC.later (hx z (by simp)) (h1 V z rfl)
  intro y hy
  rcases List.mem_append.1 hy with h | h
  ·exact hC.lxt ((List.pairwise_append.1 a1).2.2 y h z (by simp)) hz
  ·rw [List.mem_singleton.1 h]; exact hz
 refine ⟨a1, List.pairwise_cons.2 ⟨fun y hy => .inl (h2 y hy), a2⟩, fun y hy z hz => ?_⟩
 rcases List.mem_cons.1 hz with rfl | h
 ·exact b1 y hy
 ·exact a3 y hy z h
theorem G7 (hC : CmpI H r g n f S c) (hr : r < H.length) (hn : n ≤ 1000000) {P Q : List Nat} {a b : Nat} (ha : a = P.length) :
 ∀ (U W l : List Nat) (i : Nat), l = P ++ W ++ U ++ Q → l.length = n → (∀ y ∈ l, y < n) → i = P.length + W.length → b = i + U.length → W.Pairwise (Lx c) → U.Pairwise (· < ·) → (∀ y ∈ W, ∀ u ∈ U, y < u) →
  ∃ ex Z l', C X (.loop lI) [(0, Ym r g n), (1, .int .i64 a), (2, .int .i64 b), (3, .func f [S] []), (8, .int .i64 i)] (hI H r g l) = some (.exit 0, ex, hI H r g l') ∧ l' = P ++ Z ++ Q ∧ Z.Perm (W ++ U) ∧ Z.Pairwise (Lx c) := by
 intro U
 induction U with
 | nil =>
  intro W l i hl ax hlt hi hb hW hU Ov
  have w0 : ¬ i < b := by simp at hb; omega
  have w1 : ¬ (i : Int) < (b : Int) := by omega
  rw [Zc]
  unfold lI
  refine rn (aD @w0 @w1) ?_
  rw [Zx]
  exact ⟨_, W, l, rfl, by simpa using hl, by simp, hW⟩
 | cons x U ih =>
  intro W l i hl ax hlt hi hb hW hU Ov
  have hlen := congrArg List.length hl
  simp only [List.length_append, List.length_cons] at hlen hb
  obtain ⟨I, cZ⟩ : ∃ I, I = i + 1 := ⟨_, rfl⟩
  have w0 : i < b := by omega
  have w1 : (i : Int) < (b : Int) := by omega
  have w2 : IntKind.i64.wrap ((i : Int) + 1) = (I : Int) := wr
  obtain ⟨y, z, W1, W2, l2, h1, h2, h3, h4, h5⟩ := G6 hC hr hn (P := P) (x := x) (a := a) (b := b) (i := i) ha W.length W (U ++ Q) l i rfl (by rw [hl]; simp) ax hlt hi
  have hs : C X lI [(0, Ym r g n), (1, .int .i64 a), (2, .int .i64 b), (3, .func f [S] []), (8, .int .i64 i)] (hI H r g l) = some (.norm, [(0, Ym r g n), (1, .int .i64 a), (2, .int .i64 b), (3, .func f [S] []), (8, .int .i64 I)], hI H r g l2) := by
   unfold lI
   refine rn (cg @w0 @w1 @w2) ?_
   refine Yy ?_
   rw [h1]
   refine rn (cg @w0 @w1 @w2) ?_
   simp [Za, lk]
  rw [Zc, hs, ZB]
  subst h2
  have hxs := List.pairwise_cons.1 hU
  obtain ⟨ex, Z, l', g1, g2, g3, g4⟩ := ih (W1 ++ x :: W2) l2 I (by rw [h3]; simp) (by rw [h3]; simp; simp at hlen; omega) (by rw [h3]; intro q hq; apply hlt; rw [hl]; exact Tt hq) (by simp at hi ⊢; omega) (by omega) (CK hC hW (fun y hy => Ov y hy x (by simp)) h4 h5) hxs.2 (by
   intro y hy u hu
   have hx := hxs.1 u hu
   have := fun h => Ov y h u (by simp [hu])
   simp only [List.mem_append, List.mem_cons] at hy this
   rcases hy with h | h | h
   ·exact this (.inl h)
   ·rw [h]; exact hx
   ·exact this (.inr h))
  refine ⟨ex, Z, l', g1, g2, g3.trans ?_, g4⟩
  simp only [List.append_assoc, List.cons_append]
  exact List.Perm.append_left _ (List.perm_middle.symm)
theorem Jt (hC : CmpI H r g n f S c) (hr : r < H.length) (hn : n ≤ 1000000) {P A Q l : List Nat} {a b : Nat} (hl : l = P ++ A ++ Q) (ax : l.length = n) (hlt : ∀ y ∈ l, y < n) (ha : a = P.length) (hb : b = P.length + A.length) (hA : A.Pairwise (· < ·)) :
 ∃ Z, E X 99 [Ym r g n, .int .i64 a, .int .i64 b, .func f [S] []] (hI H r g l) = some (.tup [], hI H r g (P ++ Z ++ Q)) ∧ Z.Perm A ∧ Z.Pairwise (Lx c) := by
 have hlen := congrArg List.length hl
 simp only [List.length_append] at hlen
 obtain ⟨I, cZ⟩ : ∃ I, I = a + 1 := ⟨_, rfl⟩
 have w2 : IntKind.i64.wrap ((a : Int) + 1) = (I : Int) := wr
 have key : ∃ ex Z l', C X (.loop lI) [(0, Ym r g n), (1, .int .i64 a), (2, .int .i64 b), (3, .func f [S] []), (8, .int .i64 I)] (hI H r g l) = some (.exit 0, ex, hI H r g l') ∧ l' = P ++ Z ++ Q ∧ Z.Perm A ∧ Z.Pairwise (Lx c) := by
  cases A with
  | nil =>
   have w0 : ¬ I < b := by simp at hb; omega
   have w1 : ¬ (I : Int) < (b : Int) := by omega
   rw [Zc]
   unfold lI
   refine rn (aD @w0 @w1) ?_
   rw [Zx]
   exact ⟨_, [], l, rfl, hl, List.Perm.refl _, List.Pairwise.nil⟩
  | cons x A =>
   have hxs := List.pairwise_cons.1 hA
   simp only [List.length_cons] at hb hlen
   exact G7 hC hr hn (P := P) (Q := Q) (a := a) (b := b) ha A [x] l I (by rw [hl]; simp) ax hlt (by simp; omega) (by omega) (by simp) hxs.2 (fun y hy u hu => by rw [List.mem_singleton.1 hy]; exact hxs.1 u hu)
 obtain ⟨ex, Z, l', h1, h2, h3, h4⟩ := key
 refine ⟨Z, ?_, h3, h4⟩
 rw [Zv (X := X) _ F0 _ rfl rfl]; unfold F0
 refine rn @w2 ?_
 refine Yy ?_
 rw [h1, h2]
 refine rn trivial ?_
 simp [ZS, ZV, jA]
end
section
variable {H : Zb} {r g n f : Nat} {S : DV} {c : Nat → Nat → Int}
theorem mW {i j h : Nat} (h1 : h = (i + j) / 2) (hj : i + j ≤ 4000000) : IntKind.i64.wrap ((i : Int) + j) = ((i + j : Nat) : Int) ∧ IntKind.u64.wrap ((i + j : Nat) : Int) = ((i + j : Nat) : Int) ∧ Int.fdiv ((i + j : Nat) : Int) 2 = (h : Int) ∧ IntKind.i64.wrap (h : Int) = (h : Int) ∧ IntKind.i64.wrap ((h : Int) + 1) = ((h + 1 : Nat) : Int) := by
 refine ⟨wr, by rw [mR, Nat.mod_eq_of_lt (by omega)], ?_, wrap64 _ (by omega) (by omega), wr⟩
 rw [Int.fdiv_eq_ediv_of_nonneg _ (by omega)]
 omega
theorem EG (hC : CmpI H r g n f S c) (hr : r < H.length) (hn : n ≤ 1000000) {l : List Nat} {a : Nat} (ax : l.length = n) (hlt : ∀ i, i < n → eN l i < n) (ha : a < n) :
 ∀ (k i j : Nat), j - i ≤ k → i ≤ j → j ≤ n → ∃ q ex, C X (.loop k6) [(0, Ym r g n), (1, .int .i64 a), (4, .func f [S] []), (10, .int .i64 i), (11, .int .i64 j)] (hI H r g l) =
  some (.exit 0, (0, Ym r g n) :: (1, .int .i64 a) :: (4, .func f [S] []) :: (10, .int .i64 (q : Nat)) :: ex, hI H r g l) ∧ i ≤ q ∧ q ≤ j ∧ (q = i ∨ c (eN l (q - 1)) (eN l a) < 0) ∧ (q = j ∨ ¬ c (eN l q) (eN l a) < 0) := by
 intro k
 induction k with
 | zero =>
  intro i j hk hij hj
  obtain rfl : i = j := by omega
  refine ⟨i, [(11, .int .i64 i), (33, .bool false)], ?_, Nat.le_refl _, Nat.le_refl _, .inl rfl, .inl rfl⟩
  rw [Zc]
  unfold k6
  refine rn trivial ?_
  rw [Zx]
  simp [Za, lk]
 | succ k ih =>
  intro i j hk hij hj
  by_cases c0 : i < j
  case neg => exact ih i j (by omega) hij hj
  have c1 : (i : Int) < (j : Int) := by omega
  obtain ⟨h, hh⟩ : ∃ h, h = (i + j) / 2 := ⟨_, rfl⟩
  obtain ⟨w1, w2, w3, w4, w5⟩ := mW hh (by omega)
  obtain ⟨s, hs⟩ : ∃ s, s = i + j := ⟨_, rfl⟩
  obtain ⟨h', xW⟩ : ∃ h', h' = h + 1 := ⟨_, rfl⟩
  rw [← hs] at w1 w2 w3
  rw [← xW] at w5
  have h1 : h < n := by omega
  have e := hC.run l (eN l h) (eN l a) (hlt h h1) (hlt a ha)
  have r0 := iU (H := H) g l hr ax
  have r1 := iB (H := H) g l hr ax h1
  have r2 := iB (H := H) g l hr ax ha
  by_cases d : c (eN l h) (eN l a) < 0
  ·have hs : C X k6 [(0, Ym r g n), (1, .int .i64 a), (4, .func f [S] []), (10, .int .i64 i), (11, .int .i64 j)] (hI H r g l) = some (.norm, [(0, Ym r g n), (1, .int .i64 a), (4, .func f [S] []), (10, .int .i64 h'), (11, .int .i64 j)], hI H r g l) := by
    unfold k6
    refine rn (mE @c0 @c1 @w1 @w2 @w3 @w4 @w5 @ax @h1 @ha @e @r0 @r1 @r2 @d) ?_
    simp [Za, lk]
   obtain ⟨q, ex, g1, g2, g3, g4, g5⟩ := ih h' j (by omega) (by omega) hj
   rw [Zc, hs, ZB]
   refine ⟨q, ex, g1, by omega, g3, ?_, g5⟩
   right
   rcases g4 with g4 | g4
   ·rw [g4, xW, Nat.add_sub_cancel]; exact d
   ·exact g4
  ·have hs : C X k6 [(0, Ym r g n), (1, .int .i64 a), (4, .func f [S] []), (10, .int .i64 i), (11, .int .i64 j)] (hI H r g l) = some (.norm, [(0, Ym r g n), (1, .int .i64 a), (4, .func f [S] []), (10, .int .i64 i), (11, .int .i64 h)], hI H r g l) := by
    unfold k6
    refine rn (mE @c0 @c1 @w1 @w2 @w3 @w4 @w5 @ax @h1 @ha @e @r0 @r1 @r2 @d) ?_
    simp [Za, lk]
   obtain ⟨q, ex, g1, g2, g3, g4, g5⟩ := ih i h (by omega) (by omega) (by omega)
   rw [Zc, hs, ZB]
   refine ⟨q, ex, g1, g2, by omega, g4, ?_⟩
   right
   rcases g5 with g5 | g5
   ·rw [g5]; exact d
   ·exact g5
theorem EE (hC : CmpI H r g n f S c) (hr : r < H.length) (hn : n ≤ 1000000) {l : List Nat} {a : Nat} (ax : l.length = n) (hlt : ∀ i, i < n → eN l i < n) (ha : a < n) :
 ∀ (k i j : Nat), j - i ≤ k → i ≤ j → j ≤ n → ∃ q ex, C X (.loop kZ) [(0, Ym r g n), (2, .int .i64 a), (4, .func f [S] []), (14, .int .i64 i), (15, .int .i64 j)] (hI H r g l) =
  some (.exit 4, (0, Ym r g n) :: (2, .int .i64 a) :: (4, .func f [S] []) :: (14, .int .i64 (q : Nat)) :: ex, hI H r g l) ∧ i ≤ q ∧ q ≤ j ∧ (q = i ∨ ¬ c (eN l a) (eN l (q - 1)) < 0) ∧ (q = j ∨ c (eN l a) (eN l q) < 0) := by
 intro k
 induction k with
 | zero =>
  intro i j hk hij hj
  obtain rfl : i = j := by omega
  refine ⟨i, [(15, .int .i64 i), (85, .bool false)], ?_, Nat.le_refl _, Nat.le_refl _, .inl rfl, .inl rfl⟩
  rw [Zc]
  unfold kZ
  refine rn trivial ?_
  rw [Zx]
  simp [Za, lk]
 | succ k ih =>
  intro i j hk hij hj
  by_cases c0 : i < j
  case neg => exact ih i j (by omega) hij hj
  have c1 : (i : Int) < (j : Int) := by omega
  obtain ⟨h, hh⟩ : ∃ h, h = (i + j) / 2 := ⟨_, rfl⟩
  obtain ⟨w1, w2, w3, w4, w5⟩ := mW hh (by omega)
  obtain ⟨s, hs⟩ : ∃ s, s = i + j := ⟨_, rfl⟩
  obtain ⟨h', xW⟩ : ∃ h', h' = h + 1 := ⟨_, rfl⟩
  rw [← hs] at w1 w2 w3
  rw [← xW] at w5
  have h1 : h < n := by omega
  have e := hC.run l (eN l a) (eN l h) (hlt a ha) (hlt h h1)
  have r0 := iU (H := H) g l hr ax
  have r1 := iB (H := H) g l hr ax h1
  have r2 := iB (H := H) g l hr ax ha
  by_cases d : c (eN l a) (eN l h) < 0
  ·have hs : C X kZ [(0, Ym r g n), (2, .int .i64 a), (4, .func f [S] []), (14, .int .i64 i), (15, .int .i64 j)] (hI H r g l) = some (.norm, [(0, Ym r g n), (2, .int .i64 a), (4, .func f [S] []), (14, .int .i64 i), (15, .int .i64 h)], hI H r g l) := by
    unfold kZ
    refine rn (mE @c0 @c1 @w1 @w2 @w3 @w4 @w5 @ax @h1 @ha @e @r0 @r1 @r2 @d) ?_
    simp [Za, lk]
   obtain ⟨q, ex, g1, g2, g3, g4, g5⟩ := ih i h (by omega) (by omega) (by omega)
   rw [Zc, hs, ZB]
   refine ⟨q, ex, g1, g2, by omega, g4, ?_⟩
   right
   rcases g5 with g5 | g5
   ·rw [g5]; exact d
   ·exact g5
  ·have hs : C X kZ [(0, Ym r g n), (2, .int .i64 a), (4, .func f [S] []), (14, .int .i64 i), (15, .int .i64 j)] (hI H r g l) = some (.norm, [(0, Ym r g n), (2, .int .i64 a), (4, .func f [S] []), (14, .int .i64 h'), (15, .int .i64 j)], hI H r g l) := by
    unfold kZ
    refine rn (mE @c0 @c1 @w1 @w2 @w3 @w4 @w5 @ax @h1 @ha @e @r0 @r1 @r2 @d) ?_
    simp [Za, lk]
   obtain ⟨q, ex, g1, g2, g3, g4, g5⟩ := ih h' j (by omega) (by omega) hj
   rw [Zc, hs, ZB]
   refine ⟨q, ex, g1, by omega, g3, ?_, g5⟩
   right
   rcases g4 with g4 | g4
   ·rw [g4, xW, Nat.add_sub_cancel]; exact d
   ·exact g4
theorem EC (hC : CmpI H r g n f S c) (hr : r < H.length) (hn : n ≤ 1000000) {l : List Nat} {a b m md nn p : Nat} (ax : l.length = n) (hlt : ∀ i, i < n → eN l i < n) :
 ∀ (k i j : Nat), j - i ≤ k → i ≤ j → j ≤ n → (∀ h, i ≤ h → h < j → h ≤ p ∧ p - h < n) → ∃ q ex, C X (.loop jZ) [(0, Ym r g n), (1, .int .i64 a), (2, .int .i64 m), (3, .int .i64 b), (4, .func f [S] []), (18, .int .i64 md), (19, .int .i64 nn), (20, .int .i64 i), (21, .int .i64 j), (22, .int .i64 p)] (hI H r g l) =
  some (.exit 8, (0, Ym r g n) :: (1, .int .i64 a) :: (2, .int .i64 m) :: (3, .int .i64 b) :: (4, .func f [S] []) :: (18, .int .i64 md) :: (19, .int .i64 nn) :: (20, .int .i64 (q : Nat)) :: ex, hI H r g l) ∧ i ≤ q ∧ q ≤ j ∧ (q = i ∨ ¬ c (eN l (p - (q - 1))) (eN l (q - 1)) < 0) ∧ (q = j ∨ c (eN l (p - q)) (eN l q) < 0) := by
 intro k
 induction k with
 | zero =>
  intro i j hk hij hj hp
  obtain rfl : i = j := by omega
  refine ⟨i, [(21, .int .i64 i), (22, .int .i64 p), (151, .bool false)], ?_, Nat.le_refl _, Nat.le_refl _, .inl rfl, .inl rfl⟩
  rw [Zc]
  unfold jZ
  refine rn trivial ?_
  rw [Zx]
  simp [Za, lk]
 | succ k ih =>
  intro i j hk hij hj hp
  by_cases c0 : i < j
  case neg => exact ih i j (by omega) hij hj hp
  have c1 : (i : Int) < (j : Int) := by omega
  obtain ⟨h, hh⟩ : ∃ h, h = (i + j) / 2 := ⟨_, rfl⟩
  obtain ⟨w1, w2, w3, w4, w5⟩ := mW hh (by omega)
  obtain ⟨s, hs⟩ : ∃ s, s = i + j := ⟨_, rfl⟩
  obtain ⟨h', xW⟩ : ∃ h', h' = h + 1 := ⟨_, rfl⟩
  rw [← hs] at w1 w2 w3
  rw [← xW] at w5
  have h1 : h < n := by omega
  obtain ⟨p1, p2⟩ := hp h (by omega) (by omega)
  obtain ⟨t, ht⟩ : ∃ t, t = p - h := ⟨_, rfl⟩
  rw [← ht] at p2
  have w6 : IntKind.i64.wrap ((p : Int) - h) = (t : Int) := wr
  have e := hC.run l (eN l t) (eN l h) (hlt t p2) (hlt h h1)
  have r0 := iU (H := H) g l hr ax
  have r1 := iB (H := H) g l hr ax h1
  have r2 := iB (H := H) g l hr ax p2
  by_cases d : c (eN l t) (eN l h) < 0
  ·have hs : C X jZ [(0, Ym r g n), (1, .int .i64 a), (2, .int .i64 m), (3, .int .i64 b), (4, .func f [S] []), (18, .int .i64 md), (19, .int .i64 nn), (20, .int .i64 i), (21, .int .i64 j), (22, .int .i64 p)] (hI H r g l) = some (.norm, [(0, Ym r g n), (1, .int .i64 a), (2, .int .i64 m), (3, .int .i64 b), (4, .func f [S] []), (18, .int .i64 md), (19, .int .i64 nn), (20, .int .i64 i), (21, .int .i64 h), (22, .int .i64 p)], hI H r g l) := by
    unfold jZ
    refine rn (Ai @c0 @c1 @w1 @w2 @w3 @w4 @w5 @w6 @ax @h1 @p2 @e @r0 @r1 @r2 @d) ?_
    simp [Za, lk]
   obtain ⟨q, ex, g1, g2, g3, g4, g5⟩ := ih i h (by omega) (by omega) (by omega) (fun z z1 z2 => hp z z1 (by omega))
   rw [Zc, hs, ZB]
   refine ⟨q, ex, g1, g2, by omega, g4, ?_⟩
   right
   rcases g5 with g5 | g5
   ·rw [g5, ← ht]; exact d
   ·exact g5
  ·have hs : C X jZ [(0, Ym r g n), (1, .int .i64 a), (2, .int .i64 m), (3, .int .i64 b), (4, .func f [S] []), (18, .int .i64 md), (19, .int .i64 nn), (20, .int .i64 i), (21, .int .i64 j), (22, .int .i64 p)] (hI H r g l) = some (.norm, [(0, Ym r g n), (1, .int .i64 a), (2, .int .i64 m), (3, .int .i64 b), (4, .func f [S] []), (18, .int .i64 md), (19, .int .i64 nn), (20, .int .i64 h'), (21, .int .i64 j), (22, .int .i64 p)], hI H r g l) := by
    unfold jZ
    refine rn (Ai @c0 @c1 @w1 @w2 @w3 @w4 @w5 @w6 @ax @h1 @p2 @e @r0 @r1 @r2 @d) ?_
    simp [Za, lk]
   obtain ⟨q, ex, g1, g2, g3, g4, g5⟩ := ih h' j (by omega) (by omega) hj (fun z z1 z2 => hp z (by omega) z2)
   rw [Zc, hs, ZB]
   refine ⟨q, ex, g1, by omega, g3, ?_, g5⟩
   right
   rcases g4 with g4 | g4
   ·rw [g4, xW, Nat.add_sub_cancel, ← ht]; exact d
   ·exact g4
theorem EF (hr : r < H.length) (hn : n ≤ 1000000) {x i : Nat} {D : List Nat} :
 ∀ (B A l : List Nat) (k : Nat), l = A ++ x :: B ++ D → l.length = n → k = A.length → i = A.length + B.length + 1 → ∃ ex, C X (.loop pZ) [(0, Ym r g n), (10, .int .i64 i), (13, .int .i64 k)] (hI H r g l) = some (.exit 2, ex, hI H r g (A ++ B ++ x :: D)) := by
 intro B
 induction B with
 | nil =>
  intro A l k hl ax hk hi
  have hlen := congrArg List.length hl
  simp only [List.length_append, List.length_cons, List.length_nil] at hlen hi
  have w1 : IntKind.i64.wrap ((i : Int) - 1) = (k : Int) := wr
  rw [Zc]
  unfold pZ
  refine rn @w1 ?_
  rw [Zx, hl]
  exact ⟨_, by simp [Za, lk]; rfl⟩
 | cons y B ih =>
  intro A l k hl ax hk hi
  have hlen := congrArg List.length hl
  simp only [List.length_append, List.length_cons] at hlen hi
  obtain ⟨I, cZ⟩ : ∃ I, I = i - 1 := ⟨_, rfl⟩
  obtain ⟨K, hK⟩ : ∃ K, K = k + 1 := ⟨_, rfl⟩
  have w1 : IntKind.i64.wrap ((i : Int) - 1) = (I : Int) := wr
  have w2 : IntKind.i64.wrap ((k : Int) + 1) = (K : Int) := wr
  have c0 : k < I := by omega
  have c1 : (k : Int) < (I : Int) := by omega
  have k1 : k < n := by omega
  have k2 : K < n := by omega
  obtain ⟨s1, _, s2, s3⟩ := Js (l := l) (A := A) (B := []) (D := B ++ D) (x := x) (y := y) (i := k) (j := K) (by rw [hl]; simp) hk (by simp; omega)
  obtain ⟨l2, cA⟩ : ∃ l2, l2 = sN l k y := ⟨_, rfl⟩
  have eZ : l2.length = n := by rw [cA, nU, ax]
  have r0 := iU (H := H) g l hr ax
  have r1 := iB (H := H) g l hr ax k1
  have r2 := iB (H := H) g l hr ax k2
  have r3 := o6 (H := H) g l hr ax k1 y
  have r4 := o6 (H := H) g l2 hr eZ k2 x
  have r5 := iU (H := H) g l2 hr eZ
  rw [s2] at r1
  rw [s3] at r2
  rw [← cA] at r3 s1
  have hs : C X pZ [(0, Ym r g n), (10, .int .i64 i), (13, .int .i64 k)] (hI H r g l) = some (.norm, [(0, Ym r g n), (10, .int .i64 i), (13, .int .i64 K)], hI H r g (sN l2 K x)) := by
   unfold pZ
   refine rn (mF @c0 @c1 @w1 @w2 @k1 @k2 @ax @eZ @r0 @r1 @r2 @r3 @r4 @r5) ?_
   simp [Za, lk]
  obtain ⟨ex, h⟩ := ih (A ++ [y]) (sN l2 K x) K (by rw [s1]; simp) (by rw [nU, eZ]) (by simp; omega) (by simp; omega)
  rw [Zc, hs, ZB]
  exact ⟨ex, by rw [h]; simp⟩
theorem ED (hr : r < H.length) (hn : n ≤ 1000000) {x i : Nat} {A : List Nat} (hi : i = A.length) :
 ∀ (k : Nat) (W D l : List Nat) (j : Nat), W.length = k → l = A ++ W ++ x :: D → l.length = n → j = i + k → ∃ ex, C X (.loop pY) [(0, Ym r g n), (14, .int .i64 i), (17, .int .i64 j)] (hI H r g l) = some (.exit 6, ex, hI H r g (A ++ x :: W ++ D)) := by
 intro k
 induction k with
 | zero =>
  intro W D l j hW hl ax hj
  obtain rfl := List.eq_nil_of_length_eq_zero hW
  have c0 : ¬ i < j := by omega
  have c1 : ¬ (i : Int) < (j : Int) := by omega
  rw [Zc]
  unfold pY
  refine rn (aD @c0 @c1) ?_
  rw [Zx, hl]
  exact ⟨_, by simp [Za, lk]; rfl⟩
 | succ k ih =>
  intro W D l j hW hl ax hj
  rcases List.eq_nil_or_concat W with rfl | ⟨W0, y, rfl⟩
  ·simp at hW
  rw [List.concat_eq_append] at *
  simp only [List.length_append, List.length_cons, List.length_nil] at hW
  have hlen := congrArg List.length hl
  simp only [List.length_append, List.length_cons, List.length_nil] at hlen
  obtain ⟨J, hJ⟩ : ∃ J, J = j - 1 := ⟨_, rfl⟩
  have w1 : IntKind.i64.wrap ((j : Int) - 1) = (J : Int) := wr
  have c0 : i < j := by omega
  have c1 : (i : Int) < (j : Int) := by omega
  have k1 : J < n := by omega
  have k2 : j < n := by omega
  obtain ⟨_, s1, s2, s3⟩ := Js (l := l) (A := A ++ W0) (B := []) (D := D) (x := y) (y := x) (i := J) (j := j) (by rw [hl]; simp) (by simp; omega) (by simp; omega)
  obtain ⟨l2, cA⟩ : ∃ l2, l2 = sN l j y := ⟨_, rfl⟩
  have eZ : l2.length = n := by rw [cA, nU, ax]
  have r0 := iU (H := H) g l hr ax
  have r1 := iB (H := H) g l hr ax k1
  have r2 := iB (H := H) g l hr ax k2
  have r3 := o6 (H := H) g l hr ax k2 y
  have r4 := o6 (H := H) g l2 hr eZ k1 x
  have r5 := iU (H := H) g l2 hr eZ
  rw [s2] at r1
  rw [s3] at r2
  rw [← cA] at r3 s1
  have hs : C X pY [(0, Ym r g n), (14, .int .i64 i), (17, .int .i64 j)] (hI H r g l) = some (.norm, [(0, Ym r g n), (14, .int .i64 i), (17, .int .i64 J)], hI H r g (sN l2 J x)) := by
   unfold pY
   refine rn (ja @c0 @c1 @w1 @k1 @k2 @ax @eZ @r0 @r1 @r2 @r3 @r4 @r5) ?_
   simp [Za, lk]
  obtain ⟨ex, h⟩ := ih W0 (y :: D) (sN l2 J x) J (by omega) (by rw [s1]; simp) (by rw [nU, eZ]) (by omega)
  rw [Zc, hs, ZB]
  exact ⟨ex, by rw [h]; simp⟩
theorem zH (hC : CmpI H r g n f S c) {A B : List Nat} {z w : Nat} (hA : (A ++ [z]).Pairwise (Lx c)) (hB : (w :: B).Pairwise (Lx c)) (RD : Lx c z w) : ∀ x ∈ A ++ [z], ∀ y ∈ w :: B, Lx c x y := by
 intro x hx y hy
 have h1 : Lx c x w := by
  rcases List.mem_append.1 hx with h | h
  ·exact hC.lxt ((List.pairwise_append.1 hA).2.2 x h z (by simp)) RD
  ·rw [List.mem_singleton.1 h]; exact RD
 rcases List.mem_cons.1 hy with rfl | h
 ·exact h1
 ·exact hC.lxt h1 ((List.pairwise_cons.1 hB).1 y h)
end
theorem Tr {P A1 A2 B1 B2 Q : List Nat} {q : Nat} (h : q ∈ P ++ A1 ++ B1 ++ (A2 ++ B2 ++ Q)) : q ∈ P ++ (A1 ++ A2) ++ (B1 ++ B2) ++ Q := by grind
theorem Tq {P A1 A2 B1 B2 Q Z : List Nat} {q : Nat} (hp : Z.Perm (A1 ++ B1)) (h : q ∈ P ++ Z ++ A2 ++ B2 ++ Q) : q ∈ P ++ (A1 ++ A2) ++ (B1 ++ B2) ++ Q := by
 have := hp.mem_iff (a := q)
 clear hp
 grind
section
variable {H : Zb} {r g n f : Nat} {S : DV} {c : Nat → Nat → Int}
theorem nS (B : List Nat) {k : Nat} (h : k ≤ B.length) : ∃ B1 B2, B = B1 ++ B2 ∧ B1.length = k := ⟨B.take k, B.drop k, (List.take_append_drop _ _).symm, by rw [List.length_take]; omega⟩
theorem snoc {B : List Nat} (h : 0 < B.length) : ∃ V z, B = V ++ [z] := by
 rcases List.eq_nil_or_concat B with rfl | ⟨V, z, rfl⟩
 ·simp at h
 ·exact ⟨V, z, by simp⟩
theorem wP {A B : List Nat} (hA : A.Pairwise (Lx c)) (hB : B.Pairwise (Lx c)) (h : ∀ x ∈ A, ∀ y ∈ B, Lx c x y) : (A ++ B).Pairwise (Lx c) := List.pairwise_append.2 ⟨hA, hB, h⟩
theorem KX (hC : CmpI H r g n f S c) {P A B Q l : List Nat} {a m b : Nat} (hl : l = P ++ A ++ B ++ Q) (ha : a = P.length) (hm : m = P.length + A.length) (hb : b = m + B.length) (hA : A.Pairwise (Lx c)) (hB : B.Pairwise (Lx c)) (fC : ∀ x ∈ A, ∀ y ∈ B, x < y) {x q : Nat} (hAx : A = [x]) (h1 : m ≤ q) (h2 : q ≤ b) (h3 : q = m ∨ c (eN l (q - 1)) x < 0) (h4 : q = b ∨ ¬ c (eN l q) x < 0) :
 ∃ B1 B2, B = B1 ++ B2 ∧ B1.length = q - m ∧ (B1 ++ x :: B2).Pairwise (Lx c) := by
 subst hAx
 obtain ⟨B1, B2, rfl, fQ⟩ := nS B (k := q - m) (by omega)
 refine ⟨B1, B2, rfl, fQ, ?_⟩
 simp only [List.length_append, List.length_cons, List.length_nil] at hb hm
 obtain ⟨b1, b2, b3⟩ := List.pairwise_append.1 hB
 have x1 : ∀ y ∈ B1, Lx c y x := by
  by_cases e : 0 < B1.length
  ·obtain ⟨V, z, rfl⟩ := snoc e
   simp only [List.length_append, List.length_cons, List.length_nil] at fQ
   rcases h3 with h3 | h3
   ·omega
   rw [jG (l := l) (A := P ++ x :: V) (x := z) (B := B2 ++ Q) (by rw [hl]; simp) (by simp; omega)] at h3
   have hz : Lx c z x := .inl h3
   intro y hy
   rcases List.mem_append.1 hy with h | h
   ·exact hC.lxt ((List.pairwise_append.1 b1).2.2 y h z (by simp)) hz
   ·rw [List.mem_singleton.1 h]; exact hz
  ·obtain rfl := List.eq_nil_of_length_eq_zero (by omega : B1.length = 0)
   intro y hy; cases hy
 have x2 : ∀ y ∈ B2, Lx c x y := by
  cases B2 with
  | nil => intro y hy; cases hy
  | cons w B2 =>
   simp only [List.length_cons] at hb
   rcases h4 with h4 | h4
   ·omega
   rw [jG (l := l) (A := P ++ x :: B1) (x := w) (B := B2 ++ Q) (by rw [hl]; simp) (by simp; omega)] at h4
   have hw : Lx c x w := hC.later (fC x (by simp) w (by simp)) h4
   intro y hy
   rcases List.mem_cons.1 hy with rfl | h
   ·exact hw
   ·exact hC.lxt hw ((List.pairwise_cons.1 b2).1 y h)
 exact wP b1 (List.pairwise_cons.2 ⟨x2, b2⟩) (fun y hy z hz => by
  rcases List.mem_cons.1 hz with rfl | h
  ·exact x1 y hy
  ·exact b3 y hy z h)
theorem KW (hC : CmpI H r g n f S c) {P A B Q l : List Nat} {a m b : Nat} (hl : l = P ++ A ++ B ++ Q) (ha : a = P.length) (hm : m = P.length + A.length) (hb : b = m + B.length) (hA : A.Pairwise (Lx c)) (hB : B.Pairwise (Lx c)) (fC : ∀ x ∈ A, ∀ y ∈ B, x < y) {y q : Nat} (VB : B = [y]) (h1 : a ≤ q) (h2 : q ≤ m) (h3 : q = a ∨ ¬ c y (eN l (q - 1)) < 0) (h4 : q = m ∨ c y (eN l q) < 0) :
 ∃ A1 A2, A = A1 ++ A2 ∧ A1.length = q - a ∧ (A1 ++ y :: A2).Pairwise (Lx c) := by
 subst VB
 obtain ⟨A1, A2, rfl, dV⟩ := nS A (k := q - a) (by omega)
 refine ⟨A1, A2, rfl, dV, ?_⟩
 simp only [List.length_append, List.length_cons, List.length_nil] at hb hm
 obtain ⟨b1, b2, b3⟩ := List.pairwise_append.1 hA
 have x1 : ∀ z ∈ A1, Lx c z y := by
  by_cases e : 0 < A1.length
  ·obtain ⟨V, z, rfl⟩ := snoc e
   simp only [List.length_append, List.length_cons, List.length_nil] at dV
   rcases h3 with h3 | h3
   ·omega
   rw [jG (l := l) (A := P ++ V) (x := z) (B := A2 ++ y :: Q) (by rw [hl]; simp) (by simp; omega)] at h3
   have hz : Lx c z y := hC.later (fC z (by simp) y (by simp)) h3
   intro w hw
   rcases List.mem_append.1 hw with h | h
   ·exact hC.lxt ((List.pairwise_append.1 b1).2.2 w h z (by simp)) hz
   ·rw [List.mem_singleton.1 h]; exact hz
  ·obtain rfl := List.eq_nil_of_length_eq_zero (by omega : A1.length = 0)
   intro y hy; cases hy
 have x2 : ∀ z ∈ A2, Lx c y z := by
  cases A2 with
  | nil => intro y hy; cases hy
  | cons w A2 =>
   simp only [List.length_cons] at hm
   rcases h4 with h4 | h4
   ·omega
   rw [jG (l := l) (A := P ++ A1) (x := w) (B := A2 ++ y :: Q) (by rw [hl]; simp) (by simp; omega)] at h4
   have hw : Lx c y w := .inl h4
   intro z hz
   rcases List.mem_cons.1 hz with rfl | h
   ·exact hw
   ·exact hC.lxt hw ((List.pairwise_cons.1 b2).1 z h)
 exact wP b1 (List.pairwise_cons.2 ⟨x2, b2⟩) (fun z hz w hw => by
  rcases List.mem_cons.1 hw with rfl | h
  ·exact x1 z hz
  ·exact b3 z hz w h)
theorem MW (hC : CmpI H r g n f S c) {P A B Q l : List Nat} {a m b md nn s0 r0 q : Nat} (hl : l = P ++ A ++ B ++ Q) (ha : a = P.length) (hm : m = P.length + A.length) (hb : b = m + B.length) (hA : A.Pairwise (Lx c)) (hB : B.Pairwise (Lx c)) (fC : ∀ x ∈ A, ∀ y ∈ B, x < y) (h0 : 0 < A.length) (h1 : 0 < B.length)
 (t7 : md = (a + b) / 2) (hnn : nn = md + m) (hs0 : s0 = if md < m then nn - b else a) (hr0 : r0 = if md < m then md else m) (q1 : s0 ≤ q) (q2 : q ≤ r0) (q3 : q = s0 ∨ ¬ c (eN l (nn - 1 - (q - 1))) (eN l (q - 1)) < 0) (q4 : q = r0 ∨ c (eN l (nn - 1 - q)) (eN l q) < 0) :
 ∃ A1 A2 B1 B2, A = A1 ++ A2 ∧ B = B1 ++ B2 ∧ a + A1.length = q ∧ m + B1.length = nn - q ∧ q ≤ nn ∧ ∀ x ∈ A1 ++ B1, ∀ y ∈ A2 ++ B2, Lx c x y := by
 have k1 : a ≤ q ∧ q ≤ m ∧ m ≤ nn - q ∧ nn - q ≤ b ∧ q ≤ nn := by
  by_cases e : md < m
  ·rw [if_pos e] at hs0 hr0; omega
  ·rw [if_neg e] at hs0 hr0; omega
 obtain ⟨k1, k2, k3, k4, k5⟩ := k1
 obtain ⟨A1, A2, rfl, dV⟩ := nS A (k := q - a) (by omega)
 obtain ⟨B1, B2, rfl, fQ⟩ := nS B (k := nn - q - m) (by omega)
 simp only [List.length_append] at hm hb h0 h1
 refine ⟨A1, A2, B1, B2, rfl, rfl, by omega, by omega, k5, ?_⟩
 obtain ⟨a1, a2, a3⟩ := List.pairwise_append.1 hA
 obtain ⟨b1, b2, b3⟩ := List.pairwise_append.1 hB
 have x1 : ∀ x ∈ A1, ∀ y ∈ B2, Lx c x y := by
  by_cases e : 0 < A1.length
  ·cases B2 with
   | nil => intro x hx y hy; cases hy
   | cons w B2 =>
    simp only [List.length_cons] at hb
    obtain ⟨V, z, rfl⟩ := snoc e
    simp only [List.length_append, List.length_cons, List.length_nil] at dV hm
    rcases q3 with q3 | q3
    ·by_cases e : md < m
     ·rw [if_pos e] at hs0; omega
     ·rw [if_neg e] at hs0; omega
    rw [show nn - 1 - (q - 1) = nn - q by omega, jG (l := l) (A := P ++ (V ++ [z] ++ A2) ++ B1) (x := w) (B := B2 ++ Q) (i := nn - q) (by rw [hl]; simp) (by simp; omega), jG (l := l) (A := P ++ V) (x := z) (B := A2 ++ B1 ++ w :: B2 ++ Q) (by rw [hl]; simp) (by simp; omega)] at q3
    exact zH hC a1 b2 (hC.later (fC z (by simp) w (by simp)) q3)
  ·obtain rfl := List.eq_nil_of_length_eq_zero (by omega : A1.length = 0)
   intro y hy; cases hy
 have x2 : ∀ x ∈ B1, ∀ y ∈ A2, Lx c x y := by
  by_cases e : 0 < B1.length
  ·cases A2 with
   | nil => intro x hx y hy; cases hy
   | cons w A2 =>
    simp only [List.length_cons] at hm
    obtain ⟨V, z, rfl⟩ := snoc e
    simp only [List.length_append, List.length_cons, List.length_nil] at fQ hb
    rcases q4 with q4 | q4
    ·by_cases e : md < m
     ·rw [if_pos e] at hr0; omega
     ·rw [if_neg e] at hr0; omega
    rw [jG (l := l) (A := P ++ (A1 ++ w :: A2) ++ V) (x := z) (B := B2 ++ Q) (i := nn - 1 - q) (by rw [hl]; simp) (by simp; omega), jG (l := l) (A := P ++ A1) (x := w) (B := A2 ++ (V ++ [z]) ++ B2 ++ Q) (by rw [hl]; simp) (by simp; omega)] at q4
    exact zH hC b1 a2 (.inl q4)
  ·obtain rfl := List.eq_nil_of_length_eq_zero (by omega : B1.length = 0)
   intro y hy; cases hy
 intro x hx y hy
 rcases List.mem_append.1 hx with h | h <;> rcases List.mem_append.1 hy with h' | h'
 ·exact a3 x h y h'
 ·exact x1 x h y h'
 ·exact x2 x h y h'
 ·exact b3 x h y h'
theorem yR {rs : List XRes} {H0 h h2 : Zb} {ops : List ah} {K : List Nat} {t : Nat} {a rest : XC} {env : Env} {R : Option (DV × Zb)} (Q : Env → Prop) (h1 : ∃ ev, C X (.seq (.reg ops K) (.cond (.t t) a .skip)) env h = some (.norm, ev, h2) ∧ Q ev) (hR : ∀ ev, Q ev → ends rs H0 (C X rest ev h2) = R) :
 ends rs H0 (C X (.seq (.reg ops K) (.seq (.cond (.t t) a .skip) rest)) env h) = R := by
 obtain ⟨ev, h1, h2⟩ := h1
 rw [← ZN, Jr h1]
 exact hR ev h2
theorem qj {cd : XC} {env ev : Env} {h h2 : Zb} {Q : Env → Prop} (h1 : C X cd env h = some (.norm, ev, h2)) (hq : Q ev) : ∃ ev, C X cd env h = some (.norm, ev, h2) ∧ Q ev := ⟨ev, h1, hq⟩
theorem Rk {l : List Nat} (ax : l.length = n) (hlt : ∀ y ∈ l, y < n) (i : Nat) (hi : i < n) : eN l i < n := by
 apply hlt
 rw [eN, List.getD_eq_getElem?_getD, List.getElem?_eq_getElem (by omega)]
 exact List.getElem_mem _
def Jg (H : Zb) (r g n f : Nat) (S : DV) (c : Nat → Nat → Int) (k : Nat) : Prop := ∀ (P A B Q l : List Nat) (a m b : Nat), A.length + B.length ≤ k → l = P ++ A ++ B ++ Q → l.length = n → (∀ y ∈ l, y < n) → a = P.length → m = P.length + A.length → b = m + B.length → 0 < A.length → 0 < B.length → A.Pairwise (Lx c) → B.Pairwise (Lx c) → (∀ x ∈ A, ∀ y ∈ B, x < y) →
 ∃ Z, E X 100 [Ym r g n, .int .i64 a, .int .i64 m, .int .i64 b, .func f [S] []] (hI H r g l) = some (.tup [], hI H r g (P ++ Z ++ Q)) ∧ Z.Perm (A ++ B) ∧ Z.Pairwise (Lx c)
theorem Bd {k : Nat} (ih : Jg H r g n f S c k) {P A B Q l : List Nat} {a m b : Nat} (hk : A.length + B.length ≤ k) (hl : l = P ++ A ++ B ++ Q) (ax : l.length = n) (hlt : ∀ y ∈ l, y < n) (ha : a = P.length) (hm : m = P.length + A.length) (hb : b = m + B.length) (hA : A.Pairwise (Lx c)) (hB : B.Pairwise (Lx c)) (fC : ∀ x ∈ A, ∀ y ∈ B, x < y) :
 ∃ Z, ((a < m ∧ m < b) → E X 100 [Ym r g n, .int .i64 a, .int .i64 m, .int .i64 b, .func f [S] []] (hI H r g l) = some (.tup [], hI H r g (P ++ Z ++ Q))) ∧ (¬ (a < m ∧ m < b) → P ++ Z ++ Q = l) ∧ Z.Perm (A ++ B) ∧ Z.Pairwise (Lx c) := by
 by_cases hc : a < m ∧ m < b
 ·obtain ⟨Z, z1, z2, z3⟩ := ih P A B Q l a m b hk hl ax hlt ha hm hb (by omega) (by omega) hA hB fC
  exact ⟨Z, fun _ => z1, fun h => absurd hc h, z2, z3⟩
 ·refine ⟨A ++ B, fun h => absurd h hc, fun _ => by rw [hl]; simp, List.Perm.refl _, ?_⟩
  have : A = [] ∨ B = [] := by
   by_cases z : A.length = 0
   ·exact .inl (List.eq_nil_of_length_eq_zero z)
   ·exact .inr (List.eq_nil_of_length_eq_zero (by omega))
  rcases this with rfl | rfl
  ·simpa using hB
  ·simpa using hA
theorem KC (hr : r < H.length) (hn : n ≤ 1000000) {P A1 A2 B1 B2 Q l : List Nat} {q m e : Nat} (hl : l = P ++ (A1 ++ A2) ++ (B1 ++ B2) ++ Q) (ax : l.length = n) (hq : q = P.length + A1.length) (hm : m = q + A2.length) (he : e = m + B1.length) :
 ((q < m ∧ m < e) → E X 125 [Ym r g n, .int .i64 q, .int .i64 m, .int .i64 e, .func f [S] []] (hI H r g l) = some (.tup [], hI H r g (P ++ A1 ++ B1 ++ (A2 ++ B2 ++ Q)))) ∧ (¬ (q < m ∧ m < e) → P ++ A1 ++ B1 ++ (A2 ++ B2 ++ Q) = l) := by
 refine ⟨fun hc => ?_, fun hc => ?_⟩
 ·have := Mx (H := H) (r := r) (g := g) (n := n) (F := .func f [S] []) hr hn (P := P ++ A1) (A := A2) (B := B1) (Q := B2 ++ Q) (l := l) (a := q) (m := m) (b := e) (by rw [hl]; simp) ax (by simp; omega) (by simp; omega) (by simp; omega) (by omega) (by omega)
  rw [this]; simp
 ·have : A2 = [] ∨ B1 = [] := by
   by_cases z : A2.length = 0
   ·exact .inl (List.eq_nil_of_length_eq_zero z)
   ·exact .inr (List.eq_nil_of_length_eq_zero (by omega))
  rw [hl]
  rcases this with rfl | rfl <;> simp
theorem KD {k : Nat} (ih : Jg H r g n f S c k) (hr : r < H.length) (hn : n ≤ 1000000) {P A1 A2 B1 B2 Q l : List Nat} {a q m e b md : Nat} (hl : l = P ++ (A1 ++ A2) ++ (B1 ++ B2) ++ Q) (ax : l.length = n) (hlt : ∀ y ∈ l, y < n) (ha : a = P.length) (hq : q = a + A1.length) (hm : m = q + A2.length) (he : e = m + B1.length) (hb : b = e + B2.length) (t7 : md = q + B1.length) (hk : b ≤ a + k + 1) (h1 : a < md) (h2 : md < b)
 (hA : (A1 ++ A2).Pairwise (Lx c)) (hB : (B1 ++ B2).Pairwise (Lx c)) (fC : ∀ x ∈ A1 ++ A2, ∀ y ∈ B1 ++ B2, x < y) (hx : ∀ x ∈ A1 ++ B1, ∀ y ∈ A2 ++ B2, Lx c x y) :
 ∃ l2 l3 l4 Z, l4 = P ++ Z ++ Q ∧ Z.Perm (A1 ++ A2 ++ (B1 ++ B2)) ∧ Z.Pairwise (Lx c) ∧ ((q < m ∧ m < e) → E X 125 [Ym r g n, .int .i64 q, .int .i64 m, .int .i64 e, .func f [S] []] (hI H r g l) = some (.tup [], hI H r g l2)) ∧ (¬ (q < m ∧ m < e) → l2 = l) ∧ ((a < q ∧ q < md) → E X 100 [Ym r g n, .int .i64 a, .int .i64 q, .int .i64 md, .func f [S] []] (hI H r g l2) = some (.tup [], hI H r g l3)) ∧ (¬ (a < q ∧ q < md) → l3 = l2) ∧ ((md < e ∧ e < b) → E X 100 [Ym r g n, .int .i64 md, .int .i64 e, .int .i64 b, .func f [S] []] (hI H r g l3) = some (.tup [], hI H r g l4)) ∧ (¬ (md < e ∧ e < b) → l4 = l3) := by
 have hlen := congrArg List.length hl
 simp only [List.length_append] at hlen
 obtain ⟨a1, a2, a3⟩ := List.pairwise_append.1 hA
 obtain ⟨b1, b2, b3⟩ := List.pairwise_append.1 hB
 obtain ⟨l2, cA⟩ : ∃ l2, l2 = P ++ A1 ++ B1 ++ (A2 ++ B2 ++ Q) := ⟨_, rfl⟩
 have MG := KC (H := H) (r := r) (g := g) (n := n) (f := f) (S := S) hr hn hl ax (by omega) hm he
 rw [← cA] at MG
 have eZ : l2.length = n := by rw [cA]; simp only [List.length_append]; omega
 have uu : ∀ y ∈ l2, y < n := fun y hy => hlt y (by rw [hl]; rw [cA] at hy; exact Tr hy)
 obtain ⟨Z1, c1, bM, p1, s1⟩ := Bd ih (P := P) (A := A1) (B := B1) (Q := A2 ++ B2 ++ Q) (l := l2) (a := a) (m := q) (b := md) (by omega) cA eZ uu ha (by omega) t7 a1 b1 (fun x hx y hy => fC x (by simp [hx]) y (by simp [hy]))
 have TW := p1.length_eq
 simp only [List.length_append] at TW
 obtain ⟨l3, qX⟩ : ∃ l3, l3 = P ++ Z1 ++ A2 ++ B2 ++ Q := ⟨_, rfl⟩
 rw [show P ++ Z1 ++ (A2 ++ B2 ++ Q) = l3 by rw [qX]; simp] at c1 bM
 have TR : l3.length = n := by rw [qX]; simp only [List.length_append]; omega
 have TQ : ∀ y ∈ l3, y < n := fun y hy => hlt y (by rw [hl]; rw [qX] at hy; exact Tq p1 hy)
 obtain ⟨Z2, c2, dA, p2, s2⟩ := Bd ih (P := P ++ Z1) (A := A2) (B := B2) (Q := Q) (l := l3) (a := md) (m := e) (b := b) (by omega) qX TR TQ (by simp only [List.length_append]; omega) (by simp only [List.length_append]; omega) hb a2 b2 (fun x hx y hy => fC x (by simp [hx]) y (by simp [hy]))
 refine ⟨l2, l3, P ++ (Z1 ++ Z2) ++ Q, Z1 ++ Z2, rfl, ?_, ?_, MG.1, MG.2, c1, bM, fun h => by rw [c2 h]; simp, fun h => by rw [← dA h]; simp⟩
 ·exact (p1.append p2).trans (by
   simp only [List.append_assoc]
   refine List.Perm.append_left _ ?_
   rw [← List.append_assoc, ← List.append_assoc]
   exact List.Perm.append_right _ List.perm_append_comm)
 ·exact wP s1 s2 (fun x hx' y hy => hx x (p1.mem_iff.1 hx') y (p2.mem_iff.1 hy))
theorem KE {a m b md nn p q e : Nat} (hn : n ≤ 1000000) (hb : b ≤ n) (h1 : a + 1 < m) (h2 : m + 1 < b) (t7 : md = (a + b) / 2) (hnn : nn = md + m) (hp : p = nn - 1) (he : e = nn - q) (hq : q ≤ nn) :
 ∃ d1 d2 : Nat, IntKind.i64.wrap ((m : Int) - a) = (d1 : Int) ∧ IntKind.i64.wrap ((b : Int) - m) = (d2 : Int) ∧ ((d1 : Int) == 1) = false ∧ ((d2 : Int) == 1) = false ∧ IntKind.i64.wrap ((md : Int) + m) = (nn : Int) ∧ IntKind.i64.wrap ((nn : Int) - 1) = (p : Int) ∧ IntKind.i64.wrap ((nn : Int) - q) = (e : Int) ∧ (md < m → IntKind.i64.wrap ((nn : Int) - b) = ((nn - b : Nat) : Int)) ∧ a + b ≤ 4000000 := by
 refine ⟨m - a, b - m, ?_, ?_, beq_eq_false_iff_ne.2 (by omega), beq_eq_false_iff_ne.2 (by omega), wr, wr, wr, fun h => ?_, by omega⟩
 ·rw [wrap64 _ (by omega) (by omega)]; omega
 ·rw [wrap64 _ (by omega) (by omega)]; omega
 ·rw [wrap64 _ (by omega) (by omega)]; omega
theorem KB {l l2 l3 l4 : List Nat} {a m b md nn p q e s0 r0 : Nat} {ex : Env} (hn : n ≤ 1000000) (hb : b ≤ n) (h1 : a + 1 < m) (h2 : m + 1 < b) (t7 : md = (a + b) / 2) (hnn : nn = md + m) (hp : p = nn - 1) (hs : (md < m → s0 = nn - b ∧ r0 = md) ∧ (¬ md < m → s0 = a ∧ r0 = m)) (he : e = nn - q) (hq : q ≤ nn)
 (g1 : C X (.loop jZ) [(0, Ym r g n), (1, .int .i64 a), (2, .int .i64 m), (3, .int .i64 b), (4, .func f [S] []), (18, .int .i64 md), (19, .int .i64 nn), (20, .int .i64 s0), (21, .int .i64 r0), (22, .int .i64 p)] (hI H r g l) = some (.exit 8, (0, Ym r g n) :: (1, .int .i64 a) :: (2, .int .i64 m) :: (3, .int .i64 b) :: (4, .func f [S] []) :: (18, .int .i64 md) :: (19, .int .i64 nn) :: (20, .int .i64 (q : Nat)) :: ex, hI H r g l))
 (k1 : (q < m ∧ m < e) → E X 125 [Ym r g n, .int .i64 q, .int .i64 m, .int .i64 e, .func f [S] []] (hI H r g l) = some (.tup [], hI H r g l2)) (EM : ¬ (q < m ∧ m < e) → l2 = l) (k2 : (a < q ∧ q < md) → E X 100 [Ym r g n, .int .i64 a, .int .i64 q, .int .i64 md, .func f [S] []] (hI H r g l2) = some (.tup [], hI H r g l3)) (EL : ¬ (a < q ∧ q < md) → l3 = l2) (k3 : (md < e ∧ e < b) → E X 100 [Ym r g n, .int .i64 md, .int .i64 e, .int .i64 b, .func f [S] []] (hI H r g l3) = some (.tup [], hI H r g l4)) (EK : ¬ (md < e ∧ e < b) → l4 = l3) :
 E X 100 [Ym r g n, .int .i64 a, .int .i64 m, .int .i64 b, .func f [S] []] (hI H r g l) = some (.tup [], hI H r g l4) := by
 obtain ⟨d1, d2, w1, w2, d1', FR, v6, v7, v8, v9, u6⟩ := KE hn hb h1 h2 t7 hnn hp he hq
 obtain ⟨v1, v2, v3, v4, v5⟩ := mW t7 u6
 obtain ⟨s, hs'⟩ : ∃ s, s = a + b := ⟨_, rfl⟩
 rw [← hs'] at v1 v2 v3
 rw [Zv (X := X) _ uE _ rfl rfl]; unfold uE
 rcases Classical.em (md < m) with u3 | u3
 case' inl =>
  obtain ⟨e1, e2⟩ := hs.1 u3
  replace v9 := v9 u3
  rw [e1, e2] at g1
  generalize nn - b = s' at v9 g1
  have u4 : (md : Int) < (m : Int) := Int.ofNat_lt.2 u3
  refine MH (dR @w1 @w2 @d1' @FR @v1 @v2 @v3 @v4 @v6 @v9 @u3 @u4) ?_
 case' inr =>
  obtain ⟨e1, e2⟩ := hs.2 u3
  rw [e1, e2] at g1
  have u4 : ¬ (md : Int) < (m : Int) := fun h => u3 (Int.ofNat_lt.1 h)
  refine MH (cP @w1 @w2 @d1' @FR @v1 @v2 @v3 @v4 @v6 @u3 @u4) ?_
 all_goals
  clear t7 hnn hp hs he hq v1 v2 v3 v4 v5 v6 v7 w1 w2 d1' FR h1 h2
  refine Yy ?_
  rw [g1]
  refine rn @v8 ?_
  refine yR (h2 := hI H r g l2) (fun ev => lk ev 0 = Ym r g n ∧ lk ev 1 = .int .i64 a ∧ lk ev 3 = .int .i64 b ∧ lk ev 4 = .func f [S] [] ∧ lk ev 18 = .int .i64 md ∧ lk ev 20 = .int .i64 q ∧ lk ev 24 = .int .i64 e) ?_ ?_
  ·by_cases c1 : q < m
   ·have bM : (q : Int) < (m : Int) := Int.ofNat_lt.2 c1
    by_cases c2 : m < e
    ·have dA : (m : Int) < (e : Int) := Int.ofNat_lt.2 c2
     have k := k1 ⟨c1, c2⟩
     apply qj
     ·refine rn (eP @c1 @bM @c2 @dA @k) ?_
      exact rfl
     ·simp [Za, lk]
    ·have dA : ¬ (m : Int) < (e : Int) := fun h => c2 (Int.ofNat_lt.1 h)
     have k := EM (fun h => c2 h.2)
     rw [k]
     apply qj
     ·refine rn (df @c1 @bM @c2 @dA) ?_
      exact rfl
     ·simp [Za, lk]
   ·have bM : ¬ (q : Int) < (m : Int) := fun h => c1 (Int.ofNat_lt.1 h)
    have k := EM (fun h => c1 h.1)
    rw [k]
    apply qj
    ·refine rn (aD @c1 @bM) ?_
     exact rfl
    ·simp [Za, lk]
  ·rintro ev ⟨q0, q1, q3, q4, tN, jT, tL⟩
   refine rn trivial ?_
   refine yR (h2 := hI H r g l3) (fun ev => lk ev 0 = Ym r g n ∧ lk ev 3 = .int .i64 b ∧ lk ev 4 = .func f [S] [] ∧ lk ev 18 = .int .i64 md ∧ lk ev 24 = .int .i64 e) ?_ ?_
   ·by_cases c1 : a < q
    ·have bM : (a : Int) < (q : Int) := Int.ofNat_lt.2 c1
     by_cases c2 : q < md
     ·have dA : (q : Int) < (md : Int) := Int.ofNat_lt.2 c2
      have k := k2 ⟨c1, c2⟩
      apply qj
      ·refine rn (dR @c1 @bM @c2 @dA @k @q0 @q1 @q3 @q4 @tN @jT @tL) ?_
       exact rfl
      ·simp [Za, lk, q0, q1, q3, q4, tN, jT, tL]
     ·have dA : ¬ (q : Int) < (md : Int) := fun h => c2 (Int.ofNat_lt.1 h)
      have k := EL (fun h => c2 h.2)
      rw [k]
      apply qj
      ·refine rn (cP @c1 @bM @c2 @dA @q0 @q1 @q3 @q4 @tN @jT @tL) ?_
       exact rfl
      ·simp [Za, lk, q0, q1, q3, q4, tN, jT, tL]
    ·have bM : ¬ (a : Int) < (q : Int) := fun h => c1 (Int.ofNat_lt.1 h)
     have k := EL (fun h => c1 h.1)
     rw [k]
     apply qj
     ·refine rn (gJ @c1 @bM @q0 @q1 @q3 @q4 @tN @jT @tL) ?_
      exact rfl
     ·simp [Za, lk, q0, q1, q3, q4, tN, jT, tL]
   ·rintro ev ⟨q0, q3, q4, tN, tL⟩
    by_cases c1 : md < e
    ·have bM : (md : Int) < (e : Int) := Int.ofNat_lt.2 c1
     by_cases c2 : e < b
     ·have dA : (e : Int) < (b : Int) := Int.ofNat_lt.2 c2
      have k := k3 ⟨c1, c2⟩
      refine rn (ei @c1 @bM @c2 @dA @k @q0 @q3 @q4 @tN @tL) ?_
      simp [ZS, ZV, jA]
     ·have dA : ¬ (e : Int) < (b : Int) := fun h => c2 (Int.ofNat_lt.1 h)
      have k := EK (fun h => c2 h.2)
      rw [k]
      refine rn (gJ @c1 @bM @c2 @dA @q0 @q3 @q4 @tN @tL) ?_
      simp [ZS, ZV, jA]
    ·have bM : ¬ (md : Int) < (e : Int) := fun h => c1 (Int.ofNat_lt.1 h)
     have k := EK (fun h => c1 h.1)
     rw [k]
     refine rn (fR @c1 @bM @q0 @q3 @q4 @tN @tL) ?_
     simp [ZS, ZV, jA]
theorem Ed (hC : CmpI H r g n f S c) (hr : r < H.length) (hn : n ≤ 1000000) : ∀ (k : Nat), Jg H r g n f S c k := by
 intro k
 induction k with
 | zero => intro P A B Q l a m b hk hl ax hlt ha hm hb h0; omega
 | succ k ih =>
  intro P A B Q l a m b hk hl ax hlt ha hm hb h0 h1 hA hB fC
  have hlen := congrArg List.length hl
  simp only [List.length_append] at hlen
  have elt := Rk ax hlt
  obtain ⟨d1, aP⟩ : ∃ d1, d1 = m - a := ⟨_, rfl⟩
  obtain ⟨d2, dG⟩ : ∃ d2, d2 = b - m := ⟨_, rfl⟩
  have w1 : IntKind.i64.wrap ((m : Int) - a) = (d1 : Int) := wr
  have w2 : IntKind.i64.wrap ((b : Int) - m) = (d2 : Int) := wr
  by_cases u1 : A.length = 1
  ·obtain ⟨x, rfl⟩ := List.length_eq_one_iff.1 u1
   have hx : eN l a = x := jG (A := P) (B := B ++ Q) (by rw [hl]; simp) ha
   obtain ⟨q, ex, g1, g2, g3, g4, g5⟩ := EG hC hr hn ax elt (a := a) (by omega) (b - m) m b (Nat.le_refl _) (by omega) (by omega)
   rw [hx] at g4 g5
   obtain ⟨B1, B2, OM, fQ, hs⟩ := KX hC hl ha hm hb hA hB fC rfl g2 g3 g4 g5
   simp only [List.length_cons, List.length_nil] at hm hlen
   obtain ⟨O2, g6⟩ := EF (H := H) (r := r) (g := g) (n := n) hr hn (x := x) (i := q) (D := B2 ++ Q) B1 P l a (by rw [hl, OM]; simp) ax ha (by omega)
   have d1' : d1 = 1 := by omega
   refine ⟨B1 ++ x :: B2, ?_, ?_, hs⟩
   ·rw [Zv (X := X) _ uE _ rfl rfl]; unfold uE
    refine rn (aD @w1 @d1') ?_
    refine Yy ?_
    rw [g1]
    refine rn trivial ?_
    refine Yy ?_
    rw [g6]
    refine rn trivial ?_
    simp [Zh, ZV, jA]
   ·rw [OM]; simp only [List.cons_append, List.nil_append]; exact List.perm_middle
  by_cases u2 : B.length = 1
  ·obtain ⟨y, rfl⟩ := List.length_eq_one_iff.1 u2
   have hy : eN l m = y := jG (A := P ++ A) (B := Q) (by rw [hl]; simp) (by simp; omega)
   obtain ⟨q, ex, g1, g2, g3, g4, g5⟩ := EE hC hr hn ax elt (a := m) (by simp at hb hlen; omega) (m - a) a m (Nat.le_refl _) (by omega) (by simp at hlen; omega)
   rw [hy] at g4 g5
   obtain ⟨A1, A2, HY, dV, hs⟩ := KW hC hl ha hm hb hA hB fC rfl g2 g3 g4 g5
   simp only [List.length_cons, List.length_nil] at hb hlen
   have VD := congrArg List.length HY
   simp only [List.length_append] at VD
   obtain ⟨O2, g6⟩ := ED (H := H) (r := r) (g := g) (n := n) hr hn (x := y) (i := q) (A := P ++ A1) (by simp; omega) A2.length A2 Q l m rfl (by rw [hl, HY]; simp) ax (by omega)
   have T8 : ((d1 : Int) == 1) = false := beq_eq_false_iff_ne.2 (by omega)
   have FR : d2 = 1 := by omega
   refine ⟨A1 ++ y :: A2, ?_, ?_, hs⟩
   ·rw [Zv (X := X) _ uE _ rfl rfl]; unfold uE
    refine rn (df @w1 @w2 @T8 @FR) ?_
    refine Yy ?_
    rw [g1]
    refine rn trivial ?_
    refine Yy ?_
    rw [g6]
    refine rn trivial ?_
    simp [Zh, ZV, jA]
   ·rw [HY]; simp only [List.append_assoc]
    exact List.Perm.append_left _ (List.perm_append_comm (l₁ := [y]) (l₂ := A2))
  obtain ⟨md, t7⟩ : ∃ md, md = (a + b) / 2 := ⟨_, rfl⟩
  obtain ⟨nn, hnn⟩ : ∃ nn, nn = md + m := ⟨_, rfl⟩
  obtain ⟨s0, hs0⟩ : ∃ s0, s0 = if md < m then nn - b else a := ⟨_, rfl⟩
  obtain ⟨r0, hr0⟩ : ∃ r0, r0 = if md < m then md else m := ⟨_, rfl⟩
  obtain ⟨p, hp⟩ : ∃ p, p = nn - 1 := ⟨_, rfl⟩
  have o5 : (md < m → s0 = nn - b ∧ r0 = md) ∧ (¬ md < m → s0 = a ∧ r0 = m) := ⟨fun h => by rw [hs0, hr0, if_pos h, if_pos h]; exact ⟨rfl, rfl⟩, fun h => by rw [hs0, hr0, if_neg h, if_neg h]; exact ⟨rfl, rfl⟩⟩
  have z1 : s0 ≤ r0 ∧ r0 ≤ n ∧ ∀ h, s0 ≤ h → h < r0 → h ≤ p ∧ p - h < n := by
   by_cases e : md < m
   ·rw [if_pos e] at hs0 hr0; refine ⟨by omega, by omega, fun h e1 e2 => ⟨by omega, by omega⟩⟩
   ·rw [if_neg e] at hs0 hr0; refine ⟨by omega, by omega, fun h e1 e2 => ⟨by omega, by omega⟩⟩
  obtain ⟨q, ex, g1, g2, g3, g4, g5⟩ := EC (a := a) (b := b) (m := m) (md := md) (nn := nn) (p := p) hC hr hn ax elt (r0 - s0) s0 r0 (Nat.le_refl _) z1.1 z1.2.1 z1.2.2
  rw [hp] at g4 g5
  obtain ⟨A1, A2, B1, B2, rfl, rfl, e1, e2, e3, hx⟩ := MW hC hl ha hm hb hA hB fC h0 h1 t7 hnn hs0 hr0 g2 g3 g4 g5
  clear hs0 hr0 z1 g2 g3 g4 g5 elt w1 w2
  simp only [List.length_append] at hm hb h0 h1 hlen hk u1 u2
  obtain ⟨e, he⟩ : ∃ e, e = nn - q := ⟨_, rfl⟩
  have n1 : q = a + A1.length := e1.symm
  have n2 : m = q + A2.length := by omega
  have n3 : e = m + B1.length := by rw [he]; exact e2.symm
  have n4 : b = e + B2.length := by omega
  have n5 : md = q + B1.length := by omega
  obtain ⟨l2, l3, l4, Z, y1, y2, y3, k1, EM, k2, EL, k3, EK⟩ := KD ih hr hn hl ax hlt ha n1 n2 n3 n4 n5 (by omega) (by omega) (by omega) hA hB fC hx
  exact ⟨Z, by rw [← y1]; exact KB hn (by omega) (by omega) (by omega) t7 hnn hp o5 he e3 g1 k1 EM k2 EL k3 EK, y2, y3⟩
end
inductive SBk (c : Nat → Nat → Int) (bs : Nat) : List Nat → Prop where
 | last {B : List Nat} (h1 : B.length ≤ bs) (h2 : B.Pairwise (Lx c)) : SBk c bs B
 | cons {B l : List Nat} (h1 : B.length = bs) (h2 : B.Pairwise (Lx c)) (h3 : SBk c bs l) (h4 : ∀ x ∈ B, ∀ y ∈ l, x < y) : SBk c bs (B ++ l)
def oN (c : Nat → Nat → Int) (bs : Nat) (P : List Nat) : Prop := ∀ T, SBk c bs T → (∀ x ∈ P, ∀ y ∈ T, x < y) → SBk c bs (P ++ T)
section
variable {c : Nat → Nat → Int}
theorem oN.nil (bs : Nat) : oN c bs [] := fun T h _ => h
theorem oN.snoc {bs : Nat} {P B : List Nat} (h : oN c bs P) (hB : B.length = bs) (hs : B.Pairwise (Lx c)) (Vv : ∀ x ∈ P, ∀ y ∈ B, x < y) : oN c bs (P ++ B) := fun T hT hx => by
 rw [List.append_assoc]
 exact h _ (.cons hB hs hT (fun x hx' y hy => hx x (by simp [hx']) y hy)) (fun x hx' y hy => by
  rcases List.mem_append.1 hy with h | h
  ·exact Vv x hx' y h
  ·exact hx x (by simp [hx']) y h)
theorem SBk.sorted {bs : Nat} {T : List Nat} (h : SBk c bs T) (hl : T.length ≤ bs) : T.Pairwise (Lx c) := by
 cases h with
 | last h1 h2 => exact h2
 | cons h1 h2 h3 h4 =>
  rename_i B l
  have : l = [] := List.eq_nil_of_length_eq_zero (by rw [List.length_append] at hl; omega)
  subst this
  simpa using h2
theorem SBk.one {bs : Nat} {T : List Nat} (h : SBk c bs T) (hl : bs < T.length) : ∃ B l, T = B ++ l ∧ B.length = bs ∧ B.Pairwise (Lx c) ∧ SBk c bs l ∧ ∀ x ∈ B, ∀ y ∈ l, x < y := by
 cases h with
 | last h1 h2 => omega
 | cons h1 h2 h3 h4 => exact ⟨_, _, rfl, h1, h2, h3, h4⟩
theorem SBk.two {bs : Nat} {T : List Nat} (h : SBk c bs T) (hb : 0 < bs) (hl : 2 * bs ≤ T.length) : ∃ B1 B2 l, T = B1 ++ B2 ++ l ∧ B1.length = bs ∧ B2.length = bs ∧ B1.Pairwise (Lx c) ∧ B2.Pairwise (Lx c) ∧ SBk c bs l ∧ (∀ x ∈ B1, ∀ y ∈ B2, x < y) ∧ ∀ x ∈ B1 ++ B2, ∀ y ∈ l, x < y := by
 obtain ⟨B1, l, rfl, h1, h2, h3, h4⟩ := h.one (by omega)
 rw [List.length_append] at hl
 by_cases e : l.length = bs
 ·exact ⟨B1, l, [], by simp, h1, e, h2, h3.sorted (by omega), .last (by simp) .nil, h4, fun x _ y hy => by cases hy⟩
 ·obtain ⟨B2, l2, rfl, g1, g2, g3, g4⟩ := h3.one (by omega)
  refine ⟨B1, B2, l2, by simp, h1, g1, h2, g2, g3, fun x hx y hy => h4 x hx y (by simp [hy]), fun x hx y hy => ?_⟩
  rcases List.mem_append.1 hx with h | h
  ·exact h4 x h y (by simp [hy])
  ·exact g4 x h y hy
end
section
variable {H : Zb} {r g n f : Nat} {S : DV} {c : Nat → Nat → Int}
theorem Hg (hC : CmpI H r g n f S c) (hr : r < H.length) (hn : n ≤ 1000000) :
 ∀ (k : Nat) (P U l : List Nat) (a b : Nat), U.length ≤ k → l = P ++ U → l.length = n → (∀ y ∈ l, y < n) → a = P.length → b = a + 20 → oN c 20 P → U.Pairwise (· < ·) → (∀ x ∈ P, ∀ y ∈ U, x < y) →
  ∃ ex P' U' l' a', C X (.loop nX) [(0, Ym r g n), (1, .int .i64 n), (2, .func f [S] []), (6, .int .i64 20), (7, .int .i64 a), (8, .int .i64 b)] (hI H r g l) =
   some (.exit 0, (0, Ym r g n) :: (1, .int .i64 n) :: (2, .func f [S] []) :: (6, .int .i64 20) :: (7, .int .i64 (a' : Nat)) :: ex, hI H r g l') ∧ l' = P' ++ U' ∧ l'.Perm l ∧ a' = P'.length ∧ oN c 20 P' ∧ U'.Pairwise (· < ·) ∧ U'.length ≤ 20 ∧ (∀ x ∈ P', ∀ y ∈ U', x < y) := by
 intro k
 induction k with
 | zero =>
  intro P U l a b hk hl ax hlt ha hb hP hU Fh
  have hlen := congrArg List.length hl
  rw [List.length_append] at hlen
  have c0 : ¬ b ≤ n := by omega
  have c1 : ¬ (b : Int) ≤ (n : Int) := by omega
  refine ⟨[(8, .int .i64 b), (13, .bool false)], P, U, l, a, ?_, hl, List.Perm.refl _, ha, hP, hU, by omega, Fh⟩
  rw [Zc]
  unfold nX
  refine rn (aD @c0 @c1) ?_
  rw [Zx]
  simp [Za, lk]
 | succ k ih =>
  intro P U l a b hk hl ax hlt ha hb hP hU Fh
  have hlen := congrArg List.length hl
  rw [List.length_append] at hlen
  by_cases c0 : b ≤ n
  case neg =>
   have c1 : ¬ (b : Int) ≤ (n : Int) := by omega
   refine ⟨[(8, .int .i64 b), (13, .bool false)], P, U, l, a, ?_, hl, List.Perm.refl _, ha, hP, hU, by omega, Fh⟩
   rw [Zc]
   unfold nX
   refine rn (aD @c0 @c1) ?_
   rw [Zx]
   simp [Za, lk]
  have c1 : (b : Int) ≤ (n : Int) := by omega
  obtain ⟨A, U2, rfl, hA⟩ := nS U (k := 20) (by omega)
  rw [List.length_append] at hlen hk
  obtain ⟨u1, u2, u3⟩ := List.pairwise_append.1 hU
  obtain ⟨Z, e, z1, z2⟩ := Jt hC hr hn (P := P) (A := A) (Q := U2) (l := l) (a := a) (b := b) (by rw [hl]; simp) ax hlt ha (by omega) u1
  have hZ := z1.length_eq
  obtain ⟨l2, cA⟩ : ∃ l2, l2 = P ++ Z ++ U2 := ⟨_, rfl⟩
  rw [← cA] at e
  obtain ⟨b', hb'⟩ : ∃ b', b' = b + 20 := ⟨_, rfl⟩
  have w1 : IntKind.i64.wrap ((b : Int) + 20) = (b' : Int) := wr
  have hp2 : l2.Perm l := by
   rw [cA, hl, ← List.append_assoc]
   exact List.Perm.append_right _ (List.Perm.append_left _ z1)
  have hs : C X nX [(0, Ym r g n), (1, .int .i64 n), (2, .func f [S] []), (6, .int .i64 20), (7, .int .i64 a), (8, .int .i64 b)] (hI H r g l) = some (.norm, [(0, Ym r g n), (1, .int .i64 n), (2, .func f [S] []), (6, .int .i64 20), (7, .int .i64 b), (8, .int .i64 b')], hI H r g l2) := by
   unfold nX
   refine rn (df @c0 @c1 @e @w1) ?_
   simp [Za, lk]
  rw [Zc, hs, ZB]
  obtain ⟨ex, P', U', l', a', g1, g2, g3, g4⟩ := ih (P ++ Z) U2 l2 b b' (by omega) cA (by rw [hp2.length_eq, ax]) (fun y hy => hlt y (hp2.mem_iff.1 hy)) (by rw [List.length_append]; omega) hb' (hP.snoc (by omega) z2 (fun x hx y hy => Fh x hx y (by simp [z1.mem_iff.1 hy]))) u2 (fun x hx y hy => by
   rcases List.mem_append.1 hx with h | h
   ·exact Fh x h y (by simp [hy])
   ·exact u3 x (z1.mem_iff.1 h) y hy)
  exact ⟨ex, P', U', l', a', g1, g2, g3.trans hp2, g4⟩
theorem He (hC : CmpI H r g n f S c) (hr : r < H.length) (hn : n ≤ 1000000) {bs : Nat} (hbs : 0 < bs) (Oo : bs < n) :
 ∀ (k : Nat) (P T l : List Nat) (a b : Nat), T.length ≤ k → l = P ++ T → l.length = n → (∀ y ∈ l, y < n) → a = P.length → b = a + 2 * bs → oN c (2 * bs) P → SBk c bs T → (∀ x ∈ P, ∀ y ∈ T, x < y) →
  ∃ ex P' T' l' a', C X (.loop pO) [(0, Ym r g n), (1, .int .i64 n), (2, .func f [S] []), (6, .int .i64 bs), (7, .int .i64 a), (8, .int .i64 b)] (hI H r g l) =
   some (.exit 4, (0, Ym r g n) :: (1, .int .i64 n) :: (2, .func f [S] []) :: (6, .int .i64 bs) :: (7, .int .i64 (a' : Nat)) :: ex, hI H r g l') ∧ l' = P' ++ T' ∧ l'.Perm l ∧ a' = P'.length ∧ oN c (2 * bs) P' ∧ SBk c bs T' ∧ T'.length < 2 * bs ∧ (∀ x ∈ P', ∀ y ∈ T', x < y) := by
 intro k
 induction k with
 | zero =>
  intro P T l a b hk hl ax hlt ha hb hP hT Fi
  have hlen := congrArg List.length hl
  rw [List.length_append] at hlen
  have c0 : ¬ b ≤ n := by omega
  have c1 : ¬ (b : Int) ≤ (n : Int) := by omega
  refine ⟨[(8, .int .i64 b), (35, .bool false)], P, T, l, a, ?_, hl, List.Perm.refl _, ha, hP, hT, by omega, Fi⟩
  rw [Zc]
  unfold pO
  refine rn (aD @c0 @c1) ?_
  rw [Zx]
  simp [Za, lk]
 | succ k ih =>
  intro P T l a b hk hl ax hlt ha hb hP hT Fi
  have hlen := congrArg List.length hl
  rw [List.length_append] at hlen
  by_cases c0 : b ≤ n
  case neg =>
   have c1 : ¬ (b : Int) ≤ (n : Int) := by omega
   refine ⟨[(8, .int .i64 b), (35, .bool false)], P, T, l, a, ?_, hl, List.Perm.refl _, ha, hP, hT, by omega, Fi⟩
   rw [Zc]
   unfold pO
   refine rn (aD @c0 @c1) ?_
   rw [Zx]
   simp [Za, lk]
  have c1 : (b : Int) ≤ (n : Int) := by omega
  obtain ⟨B1, B2, T2, rfl, h1, h2, h3, h4, h5, h6, h7⟩ := hT.two hbs (by omega)
  simp only [List.length_append] at hlen hk
  obtain ⟨m, hm⟩ : ∃ m, m = a + bs := ⟨_, rfl⟩
  obtain ⟨Z, e, z1, z2⟩ := Ed hC hr hn (bs + bs) P B1 B2 T2 l a m b (by omega) (by rw [hl]; simp) ax hlt ha (by omega) (by omega) (by omega) (by omega) h3 h4 h6
  have hZ := z1.length_eq
  rw [List.length_append] at hZ
  obtain ⟨l2, cA⟩ : ∃ l2, l2 = P ++ Z ++ T2 := ⟨_, rfl⟩
  rw [← cA] at e
  obtain ⟨b2, bu⟩ : ∃ b2, b2 = 2 * bs := ⟨_, rfl⟩
  obtain ⟨b', hb'⟩ : ∃ b', b' = b + b2 := ⟨_, rfl⟩
  have w1 : IntKind.i64.wrap ((a : Int) + bs) = (m : Int) := wr
  have w2 : IntKind.i64.wrap (2 * (bs : Int)) = (b2 : Int) := wr
  have w3 : IntKind.i64.wrap ((b : Int) + b2) = (b' : Int) := wr
  have hp2 : l2.Perm l := by
   rw [cA, hl, ← List.append_assoc]
   exact List.Perm.append_right _ (List.Perm.append_left _ z1)
  have hs : C X pO [(0, Ym r g n), (1, .int .i64 n), (2, .func f [S] []), (6, .int .i64 bs), (7, .int .i64 a), (8, .int .i64 b)] (hI H r g l) = some (.norm, [(0, Ym r g n), (1, .int .i64 n), (2, .func f [S] []), (6, .int .i64 bs), (7, .int .i64 b), (8, .int .i64 b')], hI H r g l2) := by
   unfold pO
   refine rn (eO @c0 @c1 @e @w1 @w2 @w3) ?_
   simp [Za, lk]
  rw [Zc, hs, ZB]
  have hmem : ∀ y, y ∈ Z → y ∈ B1 ∨ y ∈ B2 := fun y hy => List.mem_append.1 (z1.mem_iff.1 hy)
  obtain ⟨ex, P', U', l', a', g1, g2, g3, g4⟩ := ih (P ++ Z) T2 l2 b b' (by omega) cA (by rw [hp2.length_eq, ax]) (fun y hy => hlt y (hp2.mem_iff.1 hy)) (by rw [List.length_append]; omega) (by omega) (hP.snoc (by omega) z2 (fun x hx y hy => Fi x hx y (by
   rcases hmem y hy with h | h <;> simp [h]))) h5 (fun x hx y hy => by
   rcases List.mem_append.1 hx with h | h
   ·exact Fi x h y (by simp [hy])
   ·exact h7 x (z1.mem_iff.1 h) y hy)
  exact ⟨ex, P', U', l', a', g1, g2, g3.trans hp2, g4⟩
theorem Hf (hC : CmpI H r g n f S c) (hr : r < H.length) (hn : n ≤ 1000000) :
 ∀ (k bs : Nat) (l : List Nat), n ≤ bs + k → 0 < bs → bs ≤ 2000000 → l.length = n → (∀ y ∈ l, y < n) → SBk c bs l →
  ∃ ex l', C X (.loop lM) [(0, Ym r g n), (1, .int .i64 n), (2, .func f [S] []), (6, .int .i64 bs)] (hI H r g l) = some (.exit 2, ex, hI H r g l') ∧ l'.Perm l ∧ l'.Pairwise (Lx c) := by
 intro k
 induction k with
 | zero =>
  intro bs l hk hb Oo ax hlt hB
  have c0 : ¬ bs < n := by omega
  have c1 : ¬ (bs : Int) < (n : Int) := by omega
  have : ∃ ex, C X (.loop lM) [(0, Ym r g n), (1, .int .i64 n), (2, .func f [S] []), (6, .int .i64 bs)] (hI H r g l) = some (.exit 2, ex, hI H r g l) := by
   rw [Zc]
   unfold lM
   refine rn (aD @c0 @c1) ?_
   rw [Zx]
   exact ⟨_, rfl⟩
  obtain ⟨ex, h⟩ := this
  exact ⟨ex, l, h, List.Perm.refl _, hB.sorted (by omega)⟩
 | succ k ih =>
  intro bs l hk hb Oo ax hlt hB
  by_cases c0 : bs < n
  case neg => exact ih bs l (by omega) hb Oo ax hlt hB
  have c1 : (bs : Int) < (n : Int) := by omega
  obtain ⟨b2, bu⟩ : ∃ b2, b2 = 2 * bs := ⟨_, rfl⟩
  have w2 : IntKind.i64.wrap (2 * (bs : Int)) = (b2 : Int) := wr
  have w4 : IntKind.i64.wrap ((bs : Int) * 2) = (b2 : Int) := wr
  obtain ⟨ex, P, T, l2, a, g1, g2, g3, g4, g5, g6, g7, g8⟩ := He hC hr hn hb c0 n [] l l 0 b2 (by omega) rfl ax hlt rfl (by omega) (oN.nil _) hB (fun x hx => by cases hx)
  have hlen := congrArg List.length g2
  have eZ : l2.length = n := by rw [g3.length_eq, ax]
  rw [List.length_append] at hlen
  have uu : ∀ y ∈ l2, y < n := fun y hy => hlt y (g3.mem_iff.1 hy)
  obtain ⟨m, hm⟩ : ∃ m, m = a + bs := ⟨_, rfl⟩
  have w1 : IntKind.i64.wrap ((a : Int) + bs) = (m : Int) := wr
  have key : ∃ l3, C X lM [(0, Ym r g n), (1, .int .i64 n), (2, .func f [S] []), (6, .int .i64 bs)] (hI H r g l) = some (.norm, [(0, Ym r g n), (1, .int .i64 n), (2, .func f [S] []), (6, .int .i64 b2)], hI H r g l3) ∧ l3.Perm l2 ∧ SBk c b2 l3 := by
   by_cases c2 : m < n
   ·have c3 : (m : Int) < (n : Int) := by omega
    obtain ⟨B1, B2, rfl, h1, h2, h3, h4⟩ := g6.one (by omega)
    simp only [List.length_append] at hlen g7
    obtain ⟨Z, e, z1, z2⟩ := Ed hC hr hn (bs + bs) P B1 B2 [] l2 a m n (by omega) (by rw [g2]; simp) eZ uu g4 (by omega) (by omega) (by omega) (by omega) h2 (h3.sorted (by omega)) h4
    have hZ := z1.length_eq
    rw [List.length_append] at hZ
    obtain ⟨l3, qX⟩ : ∃ l3, l3 = P ++ Z ++ [] := ⟨_, rfl⟩
    rw [← qX] at e
    refine ⟨l3, ?_, ?_, ?_⟩
    ·unfold lM
     refine rn (cg @c0 @c1 @w2) ?_
     refine Yy ?_
     rw [show (DV.int .i64 0) = DV.int .i64 ((0 : Nat) : Int) from rfl, g1]
     refine rn (eP @w1 @c2 @c3 @e @w4) ?_
     simp [Za, lk]
    ·rw [qX, g2, List.append_nil]
     exact List.Perm.append_left _ z1
    ·rw [qX, List.append_nil, bu]
     exact g5 _ (.last (by omega) z2) (fun x hx y hy => g8 x hx y (z1.mem_iff.1 hy))
   ·have c3 : ¬ (m : Int) < (n : Int) := by omega
    refine ⟨l2, ?_, List.Perm.refl _, ?_⟩
    ·unfold lM
     refine rn (cg @c0 @c1 @w2) ?_
     refine Yy ?_
     rw [show (DV.int .i64 0) = DV.int .i64 ((0 : Nat) : Int) from rfl, g1]
     refine rn (df @w1 @c2 @c3 @w4) ?_
     simp [Za, lk]
    ·rw [g2, bu]
     exact g5 _ (.last (by omega) (g6.sorted (by omega))) g8
  obtain ⟨l3, h1, h2, h3⟩ := key
  rw [Zc, h1, ZB]
  obtain ⟨vJ, l', q1, q2, q3⟩ := ih b2 l3 (by omega) (by omega) (by omega) (by rw [h2.length_eq, eZ]) (fun y hy => uu y (h2.mem_iff.1 hy)) h3
  exact ⟨vJ, l', q1, (q2.trans h2).trans g3, q3⟩
theorem Qx (hC : CmpI H r g n f S c) (hr : r < H.length) (hn : n ≤ 1000000) {l : List Nat} (ax : l.length = n) (hlt : ∀ y ∈ l, y < n) (hl : l.Pairwise (· < ·)) :
 ∃ Z, E X 67 [Ym r g n, .int .i64 n, .func f [S] []] (hI H r g l) = some (.tup [], hI H r g Z) ∧ Z.Perm l ∧ Z.Pairwise (Lx c) := by
 obtain ⟨ex, P, U, l2, a, g1, g2, g3, g4, g5, g6, g7, g8⟩ := Hg hC hr hn n [] l l 0 20 (by omega) rfl ax hlt rfl rfl (oN.nil _) hl (fun x hx => by cases hx)
 have hlen := congrArg List.length g2
 have eZ : l2.length = n := by rw [g3.length_eq, ax]
 rw [List.length_append] at hlen
 have uu : ∀ y ∈ l2, y < n := fun y hy => hlt y (g3.mem_iff.1 hy)
 obtain ⟨Z, e, z1, z2⟩ := Jt hC hr hn (P := P) (A := U) (Q := []) (l := l2) (a := a) (b := n) (by rw [g2]; simp) eZ uu g4 (by omega) g6
 have hZ := z1.length_eq
 obtain ⟨l3, qX⟩ : ∃ l3, l3 = P ++ Z ++ [] := ⟨_, rfl⟩
 rw [← qX] at e
 have NU : l3.Perm l2 := by rw [qX, g2, List.append_nil]; exact List.Perm.append_left _ z1
 have hB : SBk c 20 l3 := by
  rw [qX, List.append_nil]
  exact g5 _ (.last (by omega) z2) (fun x hx y hy => g8 x hx y (z1.mem_iff.1 hy))
 obtain ⟨vJ, l', q1, q2, q3⟩ := Hf hC hr hn n 20 l3 (by omega) (by omega) (by omega) (by rw [NU.length_eq, eZ]) (fun y hy => uu y (NU.mem_iff.1 hy)) hB
 refine ⟨l', ?_, (q2.trans NU).trans g3, q3⟩
 rw [show ((0 : Nat) : Int) = 0 from rfl, show ((20 : Nat) : Int) = 20 from rfl] at g1
 rw [show ((20 : Nat) : Int) = 20 from rfl] at q1
 rw [Zv (X := X) _ F9 _ rfl rfl]; unfold F9
 refine rn trivial ?_
 refine Yy ?_
 rw [g1]
 refine rn @e ?_
 refine Yy ?_
 rw [q1]
 refine rn trivial ?_
 simp [ZS, ZV, jA]
theorem QJ (hC : CmpI H r g n f S c) (hr : r < H.length) (hn : n ≤ 1000000) {l : List Nat} (ax : l.length = n) (hlt : ∀ y ∈ l, y < n) (hl : l.Pairwise (· < ·)) :
 ∃ Z, E X 40 [Ym r g n, .func f [S] []] (hI H r g l) = some (.tup [], hI H r g Z) ∧ Z.Perm l ∧ Z.Pairwise (Lx c) := by
 obtain ⟨Z, e, z1, z2⟩ := Qx hC hr hn ax hlt hl
 refine ⟨Z, ?_, z1, z2⟩
 have r0 := iU (H := H) g l hr ax
 rw [Zv (X := X) _ Gj _ rfl rfl]; unfold Gj
 refine rn (cg @r0 @ax @e) ?_
 simp [ZS, ZV, jA]
end
theorem Mc (F : DV) (h : Zb) : E X 40 [.nils, F] h = some (.tup [], h) := by
 have e1 : ∀ (F : DV) (h : Zb), E X 99 [.nils, .int .i64 0, .int .i64 0, F] h = some (.tup [], h) := fun F h => by
  rw [Zv (X := X) _ F0 _ rfl rfl]; unfold F0
  refine rn (wrap64 1 (by omega) (by omega)) ?_
  rw [Zc]
  unfold lI
  refine rn trivial ?_
  rw [Zx]
  refine rn trivial ?_
  exact re trivial
 have e2 : E X 67 [.nils, .int .i64 0, F] h = some (.tup [], h) := by
  rw [Zv (X := X) _ F9 _ rfl rfl]; unfold F9
  refine rn trivial ?_
  rw [Zc]
  unfold nX
  refine rn trivial ?_
  rw [Zx]
  refine rn @e1 ?_
  rw [Zc]
  unfold lM
  refine rn trivial ?_
  rw [Zx]
  refine rn trivial ?_
  exact re trivial
 have v0 : vw h 1 .nils = some [] := rfl
 rw [Zv (X := X) _ Gj _ rfl rfl]; unfold Gj; exact Tj @e2
end Go.Proofs.YtmbgfbomgbdjeaaGreatDoor
