/- Ideal runs. -/
import Derived.Test.YteekbciaggmfgaaDoorStep
import Derived.Test.YteekbciaggmfgaaDoorPlainB
namespace Go.Proofs.YteekbciaggmfgaaDoor
attribute [local go_sem] ZF Zy ZA ZB Zp Zf Zm Zi Zk Zc Zd Zj Zq Zr ZC Zo Zg Zz Zu Zt ZR Zv Yj put lk Od.v Za Ze Zl Yv Yb Ya Yd ai Yt DV.isU DV.cells ae ZJ ZX ZK Zn splice ZM af ZT Ys bz bR bL bf bP bu aZ bn bN bg bQ bj bq bh bU bV bK aQ aR
attribute [local go_sem ↓] Zh
set_option linter.unusedVariables false
set_option linter.unusedSimpArgs false
set_option maxRecDepth 10000
theorem Dt (a b : V) : a.eqb b = b.eqb a := by
 cases h : a.eqb b <;> cases h' : b.eqb a
 ·rfl
 ·rw [(V.eqb_iff b a).1 h', (V.eqb_iff _ _).2 rfl] at h; cases h
 ·rw [(V.eqb_iff a b).1 h, (V.eqb_iff _ _).2 rfl] at h'; cases h'
 ·rfl
def cmpL (x y : List UInt8) : Int := if Op.bytesLess x y then -1 else if !(Op.bytesLess x y || x == y) then 1 else 0
theorem cmpL_eq (a : UInt8) (x y : List UInt8) : cmpL (a :: x) (a :: y) = cmpL x y := by
 simp [cmpL, Op.bytesLess]
theorem FP {a b : UInt8} (x y : List UInt8) (h : a < b) : cmpL (a :: x) (b :: y) = -1 := by
 simp [cmpL, Op.bytesLess, h]
theorem FQ {a b : UInt8} (x y : List UInt8) (h : b < a) : cmpL (a :: x) (b :: y) = 1 := by
 have h1 : ¬ a < b := by rw [UInt8.lt_iff_toNat_lt] at *; omega
 have h2 : a ≠ b := by rintro rfl; exact h1 h
 simp [cmpL, Op.bytesLess, h1, h2]
theorem Jh (a b : ByteArray) : jK a b = cmpL a.data.toList b.data.toList := by
 have he : (a == b) = (a.data.toList == b.data.toList) := by
  have h1 : (a == b) = (a.data == b.data) := rfl
  rw [h1]
  by_cases h : a.data = b.data
  ·simp [h]
  ·have h' : a.data.toList ≠ b.data.toList := fun h2 => h (Array.ext' h2)
   rw [beq_eq_false_iff_ne.2 h, beq_eq_false_iff_ne.2 h']
 simp only [jK, jm, cmpL, ByteArray.toList_eq, he]
theorem He {h : Zb} {a b : ByteArray} (ha : a.size ≤ 140737488355328) (hb : b.size ≤ 140737488355328) : ∀ (k i : Nat), a.size - i ≤ k → i ≤ a.size → i ≤ b.size →
 (C X (.loop gI) [(0, .str a), (1, .str b), (5, .int .i64 i)] h = some (.ret, [(4, .int .i64 (cmpL (a.data.toList.drop i) (b.data.toList.drop i)))], h)) ∨
 (cmpL (a.data.toList.drop i) (b.data.toList.drop i) = ef a.size b.size ∧ ∃ e', C X (.loop gI) [(0, .str a), (1, .str b), (5, .int .i64 i)] h = some (.exit 0, e', h) ∧ lk e' 0 = .str a ∧ lk e' 1 = .str b) := by
 have la : a.data.toList.length = a.size := by simp
 have lb : b.data.toList.length = b.size := by simp
 have fin : ∀ i, i ≤ a.size → i ≤ b.size → ¬ (i < a.size ∧ i < b.size) → (cmpL (a.data.toList.drop i) (b.data.toList.drop i) = ef a.size b.size ∧ ∃ e', C X (.loop gI) [(0, .str a), (1, .str b), (5, .int .i64 i)] h = some (.exit 0, e', h) ∧ lk e' 0 = .str a ∧ lk e' 1 = .str b) := by
  intro i h1 h2 h3
  refine ⟨?_, ?_⟩
  ·by_cases h4 : i = a.size
   ·rw [List.drop_eq_nil_of_le (by omega)]
    by_cases h5 : i = b.size
    ·rw [List.drop_eq_nil_of_le (by omega)]
     rw [← h4, ← h5]; simp [cmpL, ef, Op.bytesLess]
    ·rw [List.drop_eq_getElem_cons (by omega)]
     have : (a.size : Int) < b.size := by omega
     simp [cmpL, ef, Op.bytesLess, this]
   ·have h5 : i = b.size := by omega
    rw [List.drop_eq_getElem_cons (by omega), List.drop_eq_nil_of_le (by omega : b.data.toList.length ≤ i)]
    have h6 : ¬ (a.size : Int) < b.size := by omega
    have h7 : (b.size : Int) < a.size := by omega
    have h8 : ¬ a.size < b.size := by omega
    have h9 : b.size < a.size := by omega
    simp [cmpL, ef, Op.bytesLess, h6, h7, h8, h9]
  ·by_cases h4 : i < a.size
   ·have h5 : ¬ i < b.size := by omega
    rw [Zx]
    unfold gI
    refine aA (cC @h4 @h5) ?_
    rw [ZS]
    exact ⟨_, rfl, by simp [Za, lk], by simp [Za, lk]⟩
   ·rw [Zx]
    unfold gI
    refine aA @h4 ?_
    rw [ZS]
    exact ⟨_, rfl, by simp [Za, lk], by simp [Za, lk]⟩
 intro k
 induction k with
 | zero =>
  intro i hk hi hi'
  exact .inr (fin i hi hi' (by omega))
 | succ k ih =>
  intro i hk hi hi'
  by_cases w : i < a.size ∧ i < b.size
  ·obtain ⟨w0, kM⟩ := w
   have g0 : i < a.data.toList.length := by omega
   have L8 : i < b.data.toList.length := by omega
   obtain ⟨I, hI⟩ : ∃ I, I = i + 1 := ⟨_, rfl⟩
   have w1 : IntKind.i64.wrap ((i : Int) + 1) = (I : Int) := wr
   have d1 : a.data.toList.drop i = a.data.toList[i] :: a.data.toList.drop (i + 1) := List.drop_eq_getElem_cons g0
   have d2 : b.data.toList.drop i = b.data.toList[i] :: b.data.toList.drop (i + 1) := List.drop_eq_getElem_cons L8
   have t1 : a.data[i]? = some a.data.toList[i] := by rw [← Array.getElem?_toList]; exact List.getElem?_eq_getElem g0
   have t2 : b.data[i]? = some b.data.toList[i] := by rw [← Array.getElem?_toList]; exact List.getElem?_eq_getElem L8
   rw [d1, d2]
   generalize a.data.toList[i] = x at t1 d1 ⊢
   generalize b.data.toList[i] = y at t2 d2 ⊢
   have s1 : i < a.data.size := w0
   have s2 : i < b.data.size := kM
   have F7 : a.data[i]'s1 = x := by rw [Array.getElem?_eq_getElem s1] at t1; injection t1
   have F6 : b.data[i]'s2 = y := by rw [Array.getElem?_eq_getElem s2] at t2; injection t2
   by_cases h1 : x < y
   ·left
    rw [FP _ _ h1, Zx]
    have gM : x.toNat < y.toNat := UInt8.lt_iff_toNat_lt.1 h1
    unfold gI
    refine aA (gN @w0 @kM @w1 @t1 @t2 @F7 @F6 @gM) ?_
    rw [cQ]
    simp [Za, lk]
   ·by_cases h2 : y < x
    ·left
     rw [FQ _ _ h2, Zx]
     have h2' : y.toNat < x.toNat := UInt8.lt_iff_toNat_lt.1 h2
     have gM : ¬ x.toNat < y.toNat := by omega
     unfold gI
     refine aA (jC @w0 @kM @w1 @t1 @t2 @F7 @F6 @gM @h2') ?_
     rw [cQ]
     simp [Za, lk]
    ·have gM : ¬ x.toNat < y.toNat := fun h => h1 (UInt8.lt_iff_toNat_lt.2 h)
     have h2' : ¬ y.toNat < x.toNat := fun h => h2 (UInt8.lt_iff_toNat_lt.2 h)
     have hxy : x = y := UInt8.toNat_inj.1 (by omega)
     have hs : C X gI [(0, .str a), (1, .str b), (5, .int .i64 i)] h = some (.norm, [(0, .str a), (1, .str b), (5, .int .i64 I)], h) := by
      unfold gI
      refine aA (jC @w0 @kM @w1 @t1 @t2 @F7 @F6 @gM @h2') ?_
      simp [Za, lk]
     rw [Zx, hs, ZZ, hxy, cmpL_eq, ← hI]
     exact ih I (by omega) (by omega) (by omega)
  ·exact .inr (fin i hi hi' w)
theorem Kl (a b : ByteArray) (ha : a.size ≤ 140737488355328) (hb : b.size ≤ 140737488355328) (h : Zb) : E X 76 [.str a, .str b] h = some (.int .i64 (jK a b), h) := by
 rw [Jh]
 have e := He (h := h) ha hb a.size 0 (by omega) (by omega) (by omega)
 rw [List.drop_zero, List.drop_zero] at e
 rw [show ((0 : Nat) : Int) = 0 from rfl] at e
 rw [ZO (X := X) _ Jy _ rfl rfl]; unfold Jy
 refine aA trivial ?_
 refine aD ?_
 rcases e with h2 | ⟨h1, e', h2, h3, h4⟩
 ·rw [h2]
  refine aA trivial ?_
  exact GR trivial
 ·rw [h2, h1]
  by_cases q1 : a.size < b.size
  ·have NM : (a.size : Int) < b.size := by omega
   refine aA (d8 @h3 @h4 @q1 @NM) ?_
   exact CL @q1
  ·by_cases q2 : b.size < a.size
   ·refine aA (d8 @h3 @h4 @q1 @q2) ?_
    exact CL (cC @q1 @q2)
   ·refine aA (d8 @h3 @h4 @q1 @q2) ?_
    exact CL (cC @q1 @q2)
def Sm (v : V) : Prop := v.s.size ≤ 140737488355328
theorem Kv (a b : V) (ha : Sm a) (hb : Sm b) (h : Zb) : E X 47 [a.d, b.d] h = some (.int .i64 (ord a b), h) := by
 obtain ⟨k, n, s, t⟩ := a
 obtain ⟨k', n', s', t'⟩ := b
 have e1 := Kl s s' ha hb
 by_cases h1 : k < k'
 ·have h2 : ¬ k = k' := by omega
  rw [ZO (X := X) _ fZ _ rfl rfl]; unfold fZ; exact mH (cC @h1 @h2)
 by_cases h2 : k' < k
 ·have h3 : ¬ k = k' := by omega
  rw [ZO (X := X) _ fZ _ rfl rfl]; unfold fZ; exact mH (ew @h1 @h2 @h3)
 have h3 : k = k' := by omega
 subst h3
 by_cases h4 : k = 1
 ·subst h4
  by_cases h5 : n < n'
  ·rw [ZO (X := X) _ fZ _ rfl rfl]; unfold fZ; exact mH @h5
  by_cases h6 : n' < n
  ·rw [ZO (X := X) _ fZ _ rfl rfl]; unfold fZ; exact mH (cC @h5 @h6)
  rw [ZO (X := X) _ fZ _ rfl rfl]; unfold fZ; exact mH (cC @h5 @h6)
 have q4 : (k == 1) = false := by simpa using h4
 by_cases h5 : k = 2
 ·subst h5
  rw [ZO (X := X) _ fZ _ rfl rfl]; unfold fZ; exact GL @e1
 have q5 : (k == 2) = false := by simpa using h5
 by_cases h6 : k = 3
 ·subst h6
  cases t <;> cases t'
  ·rw [ZO (X := X) _ fZ _ rfl rfl]; unfold fZ; exact mH trivial
  ·rw [ZO (X := X) _ fZ _ rfl rfl]; unfold fZ; exact mH trivial
  ·rw [ZO (X := X) _ fZ _ rfl rfl]; unfold fZ; exact mH trivial
  ·rw [ZO (X := X) _ fZ _ rfl rfl]; unfold fZ; exact mH trivial
 have q6 : (k == 3) = false := by simpa using h6
 rw [ZO (X := X) _ fZ _ rfl rfl]; unfold fZ; exact GL (jP @h4 @h5 @h6 @q4 @q5 @q6)
def bJ : Option V → List V → Bool
 | _, [] => true
 | none, a :: l => aG a && bJ (some a) l
 | some p, a :: l => aG a && (decide (ord p a < 0) && bJ (some a) l)
def prev (xs : List V) : Nat → Option V
 | 0 => none
 | i + 1 => xs[i]?
theorem Hy {h : Zb} {A : DV} {xs : List V} (hA : vw h 4 A = some (xs.map V.d)) (hb : xs.length ≤ 1000000) (gL : ∀ x ∈ xs, Sm x) : ∀ (k i : Nat), xs.length - i ≤ k → i ≤ xs.length →
 (bJ (prev xs i) (xs.drop i) = false ∧ C X (.loop fM) [(0, A), (3, .int .i64 i)] h = some (.ret, [(2, .bool false)], h)) ∨ (bJ (prev xs i) (xs.drop i) = true ∧ ∃ e', C X (.loop fM) [(0, A), (3, .int .i64 i)] h = some (.exit 0, e', h)) := by
 intro k
 induction k with
 | zero =>
  intro i hk hi
  obtain rfl : i = xs.length := by omega
  right
  rw [Zx]
  unfold fM
  refine rn @hA ?_
  rw [ZS]
  exact ⟨by rw [List.drop_length]; cases prev xs xs.length <;> rfl, _, rfl⟩
 | succ k ih =>
  intro i hk hi
  by_cases w0 : i < xs.length
  ·obtain ⟨I, hI⟩ : ∃ I, I = i + 1 := ⟨_, rfl⟩
   have w1 : IntKind.i64.wrap ((i : Int) + 1) = (I : Int) := wr
   have d1 : xs.drop i = xs[i] :: xs.drop (i + 1) := List.drop_eq_getElem_cons w0
   have hp : prev xs I = some xs[i] := by rw [hI]; exact List.getElem?_eq_getElem w0
   have e1 := El xs[i]
   have fin : C X fM [(0, A), (3, .int .i64 i)] h = some (.norm, [(0, A), (3, .int .i64 I)], h) → bJ (prev xs i) (xs.drop i) = bJ (some xs[i]) (xs.drop (i + 1)) →
    (bJ (prev xs i) (xs.drop i) = false ∧ C X (.loop fM) [(0, A), (3, .int .i64 i)] h = some (.ret, [(2, .bool false)], h)) ∨ (bJ (prev xs i) (xs.drop i) = true ∧ ∃ e', C X (.loop fM) [(0, A), (3, .int .i64 i)] h = some (.exit 0, e', h)) := by
    intro hs hr
    rw [Zx, hs, ZZ, hr, ← hp, ← hI]
    exact ih I (by omega) (by omega)
   cases hm : aG xs[i]
   ·left
    rw [hm] at e1
    refine ⟨by rw [d1]; cases prev xs i <;> simp [bJ, hm], ?_⟩
    rw [Zx]
    unfold fM
    refine aT (d8 @hA @w0 @w1 @e1) ?_
    rw [cQ]
    simp [Za, lk]
   rw [hm] at e1
   cases hi0 : i with
   | zero =>
    subst hi0
    refine fin ?_ (by rw [d1]; simp [bJ, prev, hm])
    unfold fM
    rw [show ((0 : Nat) : Int) = 0 from rfl] at *
    have w9 : IntKind.i64.wrap 1 = (I : Int) := wr
    refine aT (mh @hA @w0 @w1 @w9 @e1) ?_
    simp [Za, lk]
   | succ j =>
    rw [← hi0]
    have w2 : IntKind.i64.wrap ((i : Int) - 1) = (j : Int) := wr
    have w3 : j < xs.length := by omega
    have w4 : 0 < i := by omega
    have w5 : (0 : Int) < i := by omega
    have hp' : prev xs i = some xs[j] := by rw [hi0]; exact List.getElem?_eq_getElem w3
    have e2 := Kv xs[j] xs[i] (gL _ (List.getElem_mem _)) (gL _ (List.getElem_mem _))
    by_cases ho : ord xs[j] xs[i] < 0
    ·have aF : ¬ 0 ≤ ord xs[j] xs[i] := by omega
     refine fin ?_ (by rw [d1, hp']; simp [bJ, hm, ho])
     unfold fM
     refine aT (eJ @hA @w0 @w1 @w2 @w3 @w4 @w5 @e1 @e2 @ho @aF) ?_
     simp [Za, lk]
    ·left
     have aF : 0 ≤ ord xs[j] xs[i] := by omega
     refine ⟨by rw [d1, hp']; simp [bJ, hm, ho], ?_⟩
     rw [Zx]
     unfold fM
     refine aT (eJ @hA @w0 @w1 @w2 @w3 @w4 @w5 @e1 @e2 @ho @aF) ?_
     rw [cQ]
     simp [Za, lk]
  ·exact ih i (by omega) hi
theorem KG {h : Zb} {A : DV} {xs : List V} (hA : vw h 4 A = some (xs.map V.d)) (hb : xs.length ≤ 1000000) (gL : ∀ x ∈ xs, Sm x) : E X 26 [A] h = some (.bool (bJ none xs), h) := by
 have e := Hy hA hb gL xs.length 0 (by omega) (by omega)
 rw [List.drop_zero, show prev xs 0 = none from rfl, show ((0 : Nat) : Int) = 0 from rfl] at e
 rw [ZO (X := X) _ JQ _ rfl rfl]; unfold JQ
 refine rn trivial ?_
 refine aD ?_
 rcases e with ⟨h1, h2⟩ | ⟨h1, e', h2⟩
 ·rw [h2]
  refine rn trivial ?_
  exact re @h1
 ·rw [h2]
  refine rn trivial ?_
  exact re @h1
theorem Hl {H2 : Zb} {A : DV} {xs : List V} (hA : ∀ l, vw (H2 ++ l) 4 A = some (xs.map V.d)) (hb : xs.length ≤ 1000000) : ∀ (k i : Nat) (l : Zb), xs.length - i ≤ k → i ≤ xs.length →
 (bJ (prev xs i) (xs.drop i) = false ∧ ∃ l', C X (.loop fJ) [(0, A), (5, A), (6, .int .i64 xs.length), (7, .int .i64 i)] (H2 ++ l) = some (.ret, [(2, .bool false)], H2 ++ l')) ∨ (bJ (prev xs i) (xs.drop i) = true ∧ ∃ e' l', C X (.loop fJ) [(0, A), (5, A), (6, .int .i64 xs.length), (7, .int .i64 i)] (H2 ++ l) = some (.exit 0, e', H2 ++ l')) := by
 intro k
 induction k with
 | zero =>
  intro i l hk hi
  obtain rfl : i = xs.length := by omega
  right
  rw [Zx]
  unfold fJ
  refine aA @hA ?_
  rw [ZS]
  exact ⟨by rw [List.drop_length]; cases prev xs xs.length <;> rfl, _, _, rfl⟩
 | succ k ih =>
  intro i l hk hi
  by_cases w0 : i < xs.length
  ·obtain ⟨I, hI⟩ : ∃ I, I = i + 1 := ⟨_, rfl⟩
   have w1 : IntKind.i64.wrap ((i : Int) + 1) = (I : Int) := wr
   have d1 : xs.drop i = xs[i] :: xs.drop (i + 1) := List.drop_eq_getElem_cons w0
   have hp : prev xs I = some xs[i] := by rw [hI]; exact List.getElem?_eq_getElem w0
   have e1 := pg xs[i]
   have fin : C X fJ [(0, A), (5, A), (6, .int .i64 xs.length), (7, .int .i64 i)] (H2 ++ l) = some (.norm, [(0, A), (5, A), (6, .int .i64 xs.length), (7, .int .i64 I)], H2 ++ (l ++ [HO.box 34 [.int .i64 (xs[i]).k, .int .i64 (xs[i]).n, .str (xs[i]).s, .bool (xs[i]).t]])) → bJ (prev xs i) (xs.drop i) = bJ (some xs[i]) (xs.drop (i + 1)) →
    (bJ (prev xs i) (xs.drop i) = false ∧ ∃ l', C X (.loop fJ) [(0, A), (5, A), (6, .int .i64 xs.length), (7, .int .i64 i)] (H2 ++ l) = some (.ret, [(2, .bool false)], H2 ++ l')) ∨ (bJ (prev xs i) (xs.drop i) = true ∧ ∃ e' l', C X (.loop fJ) [(0, A), (5, A), (6, .int .i64 xs.length), (7, .int .i64 i)] (H2 ++ l) = some (.exit 0, e', H2 ++ l')) := by
    intro hs hr
    rw [Zx, hs, ZZ, hr, ← hp, ← hI]
    exact ih I _ (by omega) (by omega)
   cases hm : aG xs[i]
   ·left
    rw [hm] at e1
    refine ⟨by rw [d1]; cases prev xs i <;> simp [bJ, hm], l ++ [HO.box 34 [.int .i64 (xs[i]).k, .int .i64 (xs[i]).n, .str (xs[i]).s, .bool (xs[i]).t]], ?_⟩
    rw [Zx]
    unfold fJ
    (repeat (first | rw [ZL] | rw [Zs (by simp [ZF, Zy, ZA, ZB, Zp, Zf, Zm, Zi, Zk, Zc, Zd, Zj, Zq, Zr, ZC, ↓Zh, Zo, Zg, Zz, Zu, Zt, ZR, Zv, Yj, put, lk, Od.v, Za, Ze, Zl, Yv, Yb, Ya, Yd, ai, Yt, DV.isU, DV.cells, ae, ZJ, ZX, ZK, Zn, splice, DV.one, ZM, af, ZT, Ys, hA, w0, w1, ay, e1]; exact ⟨rfl, rfl⟩)] | rw [Yi (by simp [lk, Za, Od.v, hA, w0, w1, ay, e1]; exact rfl)] | rw [Zu] | rw [Zt] | rw [ZY] | rw [Yo] | rw [Ye] | rw [Yl] | rw [Yg] | rw [Yf] | rw [ZU] | rw [ZP] | rw [ZQ] | rw [ZI (by decide)] | rw [ZN] | rw [ZG] | rw [ZH] | rw [ZE (by decide)] | rw [Yq] | rw [Ym (by simp [ZF, Zy, ZA, ZB, Zp, Zf, Zm, Zi, Zk, Zc, Zd, Zj, Zq, Zr, ZC, ↓Zh, Zo, Zg, Zz, Zu, Zt, ZR, Zv, Yj, put, lk, Od.v, Za, Ze, Zl, Yv, Yb, Ya, Yd, ai, Yt, DV.isU, DV.cells, ae, ZJ, ZX, ZK, Zn, splice, DV.one, ZM, af, ZT, Ys, hA, w0, w1, ay, e1]; exact ⟨rfl, rfl⟩)] | rw [Yp (by simp [lk, Za, Od.v, hA, w0, w1, ay, e1]; exact rfl)] | rw [Yk]))
    rw [cQ]
    simp [Za, lk]
   rw [hm] at e1
   cases hi0 : i with
   | zero =>
    subst hi0
    refine fin ?_ (by rw [d1]; simp [bJ, prev, hm])
    unfold fJ
    rw [show ((0 : Nat) : Int) = 0 from rfl] at *
    have w9 : IntKind.i64.wrap 1 = (I : Int) := wr
    (repeat (first | rw [ZL] | rw [Zs (by simp [ZF, Zy, ZA, ZB, Zp, Zf, Zm, Zi, Zk, Zc, Zd, Zj, Zq, Zr, ZC, ↓Zh, Zo, Zg, Zz, Zu, Zt, ZR, Zv, Yj, put, lk, Od.v, Za, Ze, Zl, Yv, Yb, Ya, Yd, ai, Yt, DV.isU, DV.cells, ae, ZJ, ZX, ZK, Zn, splice, DV.one, ZM, af, ZT, Ys, hA, w0, w1, w9, ay, e1]; exact ⟨rfl, rfl⟩)] | rw [Yi (by simp [lk, Za, Od.v, hA, w0, w1, w9, ay, e1]; exact rfl)] | rw [Zu] | rw [Zt] | rw [ZY] | rw [Yo] | rw [Ye] | rw [Yl] | rw [Yg] | rw [Yf] | rw [ZU] | rw [ZP] | rw [ZQ] | rw [ZI (by decide)] | rw [ZN] | rw [ZG] | rw [ZH] | rw [ZE (by decide)] | rw [Yq] | rw [Ym (by simp [ZF, Zy, ZA, ZB, Zp, Zf, Zm, Zi, Zk, Zc, Zd, Zj, Zq, Zr, ZC, ↓Zh, Zo, Zg, Zz, Zu, Zt, ZR, Zv, Yj, put, lk, Od.v, Za, Ze, Zl, Yv, Yb, Ya, Yd, ai, Yt, DV.isU, DV.cells, ae, ZJ, ZX, ZK, Zn, splice, DV.one, ZM, af, ZT, Ys, hA, w0, w1, w9, ay, e1]; exact ⟨rfl, rfl⟩)] | rw [Yp (by simp [lk, Za, Od.v, hA, w0, w1, w9, ay, e1]; exact rfl)] | rw [Yk]))
    simp [Za, lk]
   | succ j =>
    rw [← hi0]
    have w2 : IntKind.i64.wrap ((i : Int) - 1) = (j : Int) := wr
    have w3 : j < xs.length := by omega
    have w4 : 0 < i := by omega
    have w5 : (0 : Int) < i := by omega
    have hp' : prev xs i = some xs[j] := by rw [hi0]; exact List.getElem?_eq_getElem w3
    have e2 := bC xs[j] xs[i]
    by_cases ho : ord xs[j] xs[i] < 0
    ·have aF : ¬ 0 ≤ ord xs[j] xs[i] := by omega
     refine fin ?_ (by rw [d1, hp']; simp [bJ, hm, ho])
     unfold fJ
     (repeat (first | rw [ZL] | rw [Zs (by simp [ZF, Zy, ZA, ZB, Zp, Zf, Zm, Zi, Zk, Zc, Zd, Zj, Zq, Zr, ZC, ↓Zh, Zo, Zg, Zz, Zu, Zt, ZR, Zv, Yj, put, lk, Od.v, Za, Ze, Zl, Yv, Yb, Ya, Yd, ai, Yt, DV.isU, DV.cells, ae, ZJ, ZX, ZK, Zn, splice, DV.one, ZM, af, ZT, Ys, hA, w0, w1, w2, w3, w4, w5, ay, e1, e2, ho, aF]; exact ⟨rfl, rfl⟩)] | rw [Yi (by simp [lk, Za, Od.v, hA, w0, w1, w2, w3, w4, w5, ay, e1, e2, ho, aF]; exact rfl)] | rw [Zu] | rw [Zt] | rw [ZY] | rw [Yo] | rw [Ye] | rw [Yl] | rw [Yg] | rw [Yf] | rw [ZU] | rw [ZP] | rw [ZQ] | rw [ZI (by decide)] | rw [ZN] | rw [ZG] | rw [ZH] | rw [ZE (by decide)] | rw [Yq] | rw [Ym (by simp [ZF, Zy, ZA, ZB, Zp, Zf, Zm, Zi, Zk, Zc, Zd, Zj, Zq, Zr, ZC, ↓Zh, Zo, Zg, Zz, Zu, Zt, ZR, Zv, Yj, put, lk, Od.v, Za, Ze, Zl, Yv, Yb, Ya, Yd, ai, Yt, DV.isU, DV.cells, ae, ZJ, ZX, ZK, Zn, splice, DV.one, ZM, af, ZT, Ys, hA, w0, w1, w2, w3, w4, w5, ay, e1, e2, ho, aF]; exact ⟨rfl, rfl⟩)] | rw [Yp (by simp [lk, Za, Od.v, hA, w0, w1, w2, w3, w4, w5, ay, e1, e2, ho, aF]; exact rfl)] | rw [Yk]))
     simp [Za, lk]
    ·left
     have aF : 0 ≤ ord xs[j] xs[i] := by omega
     refine ⟨by rw [d1, hp']; simp [bJ, hm, ho], l ++ [HO.box 34 [.int .i64 (xs[i]).k, .int .i64 (xs[i]).n, .str (xs[i]).s, .bool (xs[i]).t]], ?_⟩
     rw [Zx]
     unfold fJ
     (repeat (first | rw [ZL] | rw [Zs (by simp [ZF, Zy, ZA, ZB, Zp, Zf, Zm, Zi, Zk, Zc, Zd, Zj, Zq, Zr, ZC, ↓Zh, Zo, Zg, Zz, Zu, Zt, ZR, Zv, Yj, put, lk, Od.v, Za, Ze, Zl, Yv, Yb, Ya, Yd, ai, Yt, DV.isU, DV.cells, ae, ZJ, ZX, ZK, Zn, splice, DV.one, ZM, af, ZT, Ys, hA, w0, w1, w2, w3, w4, w5, ay, e1, e2, ho, aF]; exact ⟨rfl, rfl⟩)] | rw [Yi (by simp [lk, Za, Od.v, hA, w0, w1, w2, w3, w4, w5, ay, e1, e2, ho, aF]; exact rfl)] | rw [Zu] | rw [Zt] | rw [ZY] | rw [Yo] | rw [Ye] | rw [Yl] | rw [Yg] | rw [Yf] | rw [ZU] | rw [ZP] | rw [ZQ] | rw [ZI (by decide)] | rw [ZN] | rw [ZG] | rw [ZH] | rw [ZE (by decide)] | rw [Yq] | rw [Ym (by simp [ZF, Zy, ZA, ZB, Zp, Zf, Zm, Zi, Zk, Zc, Zd, Zj, Zq, Zr, ZC, ↓Zh, Zo, Zg, Zz, Zu, Zt, ZR, Zv, Yj, put, lk, Od.v, Za, Ze, Zl, Yv, Yb, Ya, Yd, ai, Yt, DV.isU, DV.cells, ae, ZJ, ZX, ZK, Zn, splice, DV.one, ZM, af, ZT, Ys, hA, w0, w1, w2, w3, w4, w5, ay, e1, e2, ho, aF]; exact ⟨rfl, rfl⟩)] | rw [Yp (by simp [lk, Za, Od.v, hA, w0, w1, w2, w3, w4, w5, ay, e1, e2, ho, aF]; exact rfl)] | rw [Yk]))
     rw [cQ]
     simp [Za, lk]
  ·exact ih i l (by omega) hi
theorem Ej {h : Zb} {A : DV} {xs : List V} (hA : ∀ l, vw (h ++ l) 4 A = some (xs.map V.d)) (hb : xs.length ≤ 1000000) : E X 51 [A] h = some (.bool (bJ none xs), h) := by
 have e := Hl hA hb xs.length 0 [] (by omega) (by omega)
 have hA0 := hA []
 rw [List.append_nil] at hA0
 rw [List.drop_zero, show prev xs 0 = none from rfl, show ((0 : Nat) : Int) = 0 from rfl, List.append_nil] at e
 rw [ZO (X := X) _ JJ _ rfl rfl]; unfold JJ
 refine aA @hA0 ?_
 refine aD ?_
 rcases e with ⟨h1, l', h2⟩ | ⟨h1, e', l', h2⟩
 ·rw [h2]
  refine aA trivial ?_
  exact GR @h1
 ·rw [h2]
  refine aA trivial ?_
  exact GR @h1
end Go.Proofs.YteekbciaggmfgaaDoor
namespace Go.Proofs.YteekbciaggmfgaaDoor
set_option linter.unusedVariables false
set_option linter.unusedSimpArgs false
theorem tX : ∀ x : List UInt8, Op.bytesLess x x = false
 | [] => rfl
 | a :: x => by simp [Op.bytesLess, tX x]
theorem E6 : ∀ x y z : List UInt8, Op.bytesLess x z = true → Op.bytesLess x y = true ∨ Op.bytesLess y z = true
 | x, y, [], h => by cases x <;> simp [Op.bytesLess] at h
 | [], [], c :: z, h => .inr rfl
 | [], b :: y, c :: z, h => .inl rfl
 | a :: x, [], c :: z, h => .inr rfl
 | a :: x, b :: y, c :: z, h => by
  simp only [Op.bytesLess, Bool.or_eq_true, Bool.and_eq_true, decide_eq_true_eq, beq_iff_eq] at h ⊢
  have ih := E6 x y z
  simp only [UInt8.lt_iff_toNat_lt, ← UInt8.toNat_inj] at h ⊢
  rcases h with h | ⟨h, h'⟩
  ·by_cases h1 : a.toNat < b.toNat
   ·exact .inl (.inl h1)
   ·exact .inr (.inl (by omega))
  ·by_cases h1 : a.toNat < b.toNat
   ·exact .inl (.inl h1)
   ·by_cases h2 : b.toNat < c.toNat
    ·exact .inr (.inl h2)
    ·rcases ih h' with h3 | h3
     ·exact .inl (.inr ⟨by omega, h3⟩)
     ·exact .inr (.inr ⟨by omega, h3⟩)
theorem vY : ∀ x y z : List UInt8, Op.bytesLess x y = true → Op.bytesLess y z = true → Op.bytesLess x z = true
 | x, [], z, h, _ => by cases x <;> simp [Op.bytesLess] at h
 | x, b :: y, [], _, h => by simp [Op.bytesLess] at h
 | [], b :: y, c :: z, _, _ => rfl
 | a :: x, b :: y, c :: z, h, h' => by
  simp only [Op.bytesLess, Bool.or_eq_true, Bool.and_eq_true, decide_eq_true_eq, beq_iff_eq] at h h' ⊢
  have ih := vY x y z
  simp only [UInt8.lt_iff_toNat_lt, ← UInt8.toNat_inj] at h h' ⊢
  rcases h with h | ⟨h, h1⟩ <;> rcases h' with h' | ⟨h', h2⟩
  ·exact .inl (by omega)
  ·exact .inl (by omega)
  ·exact .inl (by omega)
  ·exact .inr ⟨by omega, ih h1 h2⟩
theorem qo (a b : Int) : ef a b < 0 ↔ a < b := by
 unfold ef
 split
 ·omega
 ·split <;> omega
theorem Dz (a b : ByteArray) : jK a b < 0 ↔ jm a b = true := by
 unfold jK
 cases h : jm a b <;> simp
 split <;> omega
theorem jY (a b : V) : ord a b < 0 ↔ a.k < b.k ∨ (a.k = b.k ∧ ((a.k = 1 ∧ a.n < b.n) ∨ (a.k = 2 ∧ jm a.s b.s = true) ∨ (a.k = 3 ∧ a.t = false ∧ b.t = true))) := by
 unfold ord
 by_cases h1 : a.k = b.k
 ·rw [if_neg (by simpa using h1)]
  by_cases h2 : a.k = 1
  ·rw [if_pos h2, qo]
   have h3 : b.k = 1 := by omega
   simp [h1, h2, h3]
  ·rw [if_neg h2]
   by_cases h3 : a.k = 2
   ·rw [if_pos h3, Dz]
    have h4 : b.k = 2 := by omega
    simp [h1, h3, h4]
   ·rw [if_neg h3]
    by_cases h4 : a.k = 3
    ·rw [if_pos h4, qo]
     have h5 : b.k = 3 := by omega
     cases a.t <;> cases b.t <;> simp [h1, h4, h5]
    ·rw [if_neg h4]
     have g2 : ¬ b.k = 1 := by omega
     have g3 : ¬ b.k = 2 := by omega
     have g4 : ¬ b.k = 3 := by omega
     simp [h1, g2, g3, g4]
 ·rw [if_pos h1, qo]
  simp [h1]
theorem gX (v : V) : ¬ ord v v < 0 := by
 rw [jY]
 rintro (h | ⟨_, h | h | h⟩)
 ·omega
 ·omega
 ·have := h.2; unfold jm at this; rw [tX] at this; cases this
 ·rw [h.2.1] at h; cases h.2.2
theorem kT (a b c : V) (h : ord a b < 0) (h' : ord b c < 0) : ord a c < 0 := by
 rw [jY] at *
 rcases h with h | ⟨h, h1⟩ <;> rcases h' with h' | ⟨h', h2⟩
 ·left; omega
 ·left; omega
 ·left; omega
 ·right
  refine ⟨by omega, ?_⟩
  rcases h1 with ⟨q, h1⟩ | ⟨q, h1⟩ | ⟨q, h1, gM⟩ <;> rcases h2 with ⟨r, h2⟩ | ⟨r, h2⟩ | ⟨r, h2, h2'⟩
  ·exact .inl ⟨q, by omega⟩
  ·omega
  ·omega
  ·omega
  ·exact .inr (.inl ⟨q, vY _ _ _ h1 h2⟩)
  ·omega
  ·omega
  ·omega
  ·exact .inr (.inr ⟨q, h1, h2'⟩)
theorem GZ (a b c : V) (h : ord a c < 0) : ord a b < 0 ∨ ord b c < 0 := by
 rw [jY] at h
 rw [jY, jY]
 rcases h with h | ⟨h, h1⟩
 ·by_cases q : a.k < b.k
  ·exact .inl (.inl q)
  ·exact .inr (.inl (by omega))
 ·by_cases q : a.k < b.k
  ·exact .inl (.inl q)
  ·by_cases q' : b.k < c.k
   ·exact .inr (.inl q')
   ·have e1 : a.k = b.k := by omega
    have e2 : b.k = c.k := by omega
    rcases h1 with ⟨q, h1⟩ | ⟨q, h1⟩ | ⟨q, h1, gM⟩
    ·by_cases h2 : a.n < b.n
     ·exact .inl (.inr ⟨e1, .inl ⟨q, h2⟩⟩)
     ·exact .inr (.inr ⟨e2, .inl ⟨by omega, by omega⟩⟩)
    ·rcases E6 _ b.s.toList _ h1 with h2 | h2
     ·exact .inl (.inr ⟨e1, .inr (.inl ⟨q, h2⟩)⟩)
     ·exact .inr (.inr ⟨e2, .inr (.inl ⟨by omega, h2⟩)⟩)
    ·cases hb : b.t
     ·exact .inr (.inr ⟨e2, .inr (.inr ⟨by omega, rfl, gM⟩)⟩)
     ·exact .inl (.inr ⟨e1, .inr (.inr ⟨q, h1, rfl⟩)⟩)
def Up (xs : List V) : Prop := xs.Pairwise fun a b => ord a b < 0
theorem sX : ∀ (l : List V) (p : V), bJ (some p) l = true → Up (p :: l) ∧ ∀ x ∈ l, aG x = true
 | [], p, _ => ⟨List.pairwise_singleton _ _, by simp⟩
 | a :: l, p, h => by
  simp only [bJ, Bool.and_eq_true, decide_eq_true_eq] at h
  obtain ⟨h1, h2, h3⟩ := h
  obtain ⟨i1, i2⟩ := sX l a h3
  refine ⟨?_, ?_⟩
  ·rw [Up, List.pairwise_cons]
   refine ⟨?_, i1⟩
   intro x hx
   rcases List.mem_cons.1 hx with rfl | hx
   ·exact h2
   ·exact kT _ _ _ h2 ((List.pairwise_cons.1 i1).1 x hx)
  ·intro x hx
   rcases List.mem_cons.1 hx with rfl | hx
   ·exact h1
   ·exact i2 x hx
theorem zW (l : List V) (h : bJ none l = true) : Up l ∧ ∀ x ∈ l, aG x = true := by
 cases l with
 | nil => exact ⟨List.Pairwise.nil, by simp⟩
 | cons a l =>
  simp only [bJ, Bool.and_eq_true] at h
  obtain ⟨h1, h2⟩ := sX l a h.2
  refine ⟨h1, ?_⟩
  intro x hx
  rcases List.mem_cons.1 hx with rfl | hx
  ·exact h.1
  ·exact h2 x hx
theorem sP (p : Nat → Bool) (lo hi : Nat) (h : lo ≤ hi) (hm : ∀ i j, i ≤ j → j < hi → p i = true → p j = true) : (∀ i, lo ≤ i → i < bs p lo hi → p i = false) ∧ (∀ i, bs p lo hi ≤ i → i < hi → p i = true) := by
 rw [bs]
 by_cases hlt : lo < hi
 ·rw [dif_pos hlt]
  cases hp : p ((lo + hi) / 2)
  ·rw [if_neg (by simp)]
   obtain ⟨h1, h2⟩ := sP p ((lo + hi) / 2 + 1) hi (by omega) hm
   refine ⟨fun i hi' hb => ?_, h2⟩
   by_cases hq : (lo + hi) / 2 + 1 ≤ i
   ·exact h1 i hq hb
   ·cases hpi : p i
    ·rfl
    ·rw [hm i ((lo + hi) / 2) (by omega) (by omega) hpi] at hp; cases hp
  ·rw [if_pos rfl]
   obtain ⟨h1, h2⟩ := sP p lo ((lo + hi) / 2) (by omega) (fun i j hij hj => hm i j hij (by omega))
   refine ⟨h1, fun i hb hi' => ?_⟩
   by_cases hq : i < (lo + hi) / 2
   ·exact h2 i hb hq
   ·exact hm ((lo + hi) / 2) i (by omega) hi' hp
 ·rw [dif_neg hlt]
  exact ⟨fun i h1 h2 => by omega, fun i h1 h2 => by omega⟩
termination_by hi - lo
theorem uc {xs : List V} (hu : Up xs) {i j : Nat} {a b : V} (hij : i < j) (ha : xs[i]? = some a) (hb : xs[j]? = some b) : ord a b < 0 := by
 obtain ⟨h1, rfl⟩ := List.getElem?_eq_some_iff.1 ha
 obtain ⟨h2, rfl⟩ := List.getElem?_eq_some_iff.1 hb
 exact List.pairwise_iff_getElem.1 hu i j h1 h2 hij
theorem yz {xs : List V} (hu : Up xs) (v : V) : (∀ i x, i < place xs v → xs[i]? = some x → ord x v < 0) ∧ (∀ i x, place xs v ≤ i → xs[i]? = some x → ¬ ord x v < 0) := by
 have h := sP (fun i => (xs[i]?.map fun x => decide (ord x v ≥ 0)).getD false) 0 xs.length (Nat.zero_le _) (by
  intro i j hij hj hp
  have hi : i < xs.length := by omega
  simp only [List.getElem?_eq_getElem hi, List.getElem?_eq_getElem hj, Option.map_some, Option.getD_some, decide_eq_true_eq] at hp ⊢
  by_cases hne : i = j
  ·subst hne; exact hp
  ·have h1 := uc hu (i := i) (j := j) (by omega) (List.getElem?_eq_getElem hi) (List.getElem?_eq_getElem hj)
   refine Int.not_lt.1 fun h2 => ?_
   have := kT _ _ _ h1 h2
   omega)
 refine ⟨fun i x hi hx => ?_, fun i x hi hx => ?_⟩
 ·have h1 := h.1 i (Nat.zero_le _) hi
  rw [hx] at h1
  simpa using h1
 ·obtain ⟨hl, _⟩ := List.getElem?_eq_some_iff.1 hx
  have h1 := h.2 i hi hl
  rw [hx] at h1
  simpa using h1
theorem qn (v : V) : ∀ (l : List V) (i : Nat), eT v l i = none → ∀ x ∈ l, v.eqb x = false
 | [], _, _ => by simp
 | a :: l, i, h => by
  simp only [eT] at h
  cases hv : v.eqb a
  ·rw [hv] at h
   intro x hx
   rcases List.mem_cons.1 hx with rfl | hx
   ·exact hv
   ·exact qn v l (i + 1) (by simpa using h) x hx
  ·rw [hv] at h; cases h
theorem Br {xs : List V} (hu : Up xs) (v : V) : found xs v = (eT v xs 0).isSome := by
 have h := yz hu v
 cases hf : eT v xs 0 with
 | none =>
  have hn := qn v xs 0 hf
  unfold found
  cases hx : xs[place xs v]? with
  | none => rfl
  | some x =>
   have := hn x (List.mem_of_getElem? hx)
   simp [Dt x v, this]
 | some j =>
  obtain ⟨_, h2, h3⟩ := rE v xs 0 j hf
  rw [Nat.sub_zero] at h3
  have hp : place xs v ≤ j := by
   refine Nat.not_lt.1 fun hlt => gX v (h.1 j v hlt h3)
  have hj : place xs v = j := by
   refine Nat.le_antisymm hp (Nat.not_lt.1 fun hlt => ?_)
   have hx : xs[place xs v]? = some xs[place xs v] := List.getElem?_eq_getElem (by omega)
   exact h.2 _ _ (Nat.le_refl _) hx (uc hu hlt hx h3)
  unfold found
  rw [hj, h3]
  simp [(V.eqb_iff v v).2 rfl]
end Go.Proofs.YteekbciaggmfgaaDoor
