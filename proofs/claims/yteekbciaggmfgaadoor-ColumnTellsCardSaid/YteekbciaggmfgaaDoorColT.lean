/- Ideal runs. -/
import Derived.Test.YteekbciaggmfgaaDoorStep
import Derived.Test.YteekbciaggmfgaaDoorColH
import Derived.Test.YteekbciaggmfgaaDoorPlainB
import Derived.Test.YteekbciaggmfgaaDoorNod
namespace Go.Proofs.YteekbciaggmfgaaDoor
attribute [local go_sem] ZF Zy ZA ZB Zp Zf Zm Zi Zk Zc Zd Zj Zq Zr ZC Zo Zg Zz Zu Zt ZR Zv Yj put lk Od.v Za Ze Zl Yv Yb Ya Yd ai Yt DV.isU DV.cells ae ZJ ZX ZK Zn splice ZM af ZT Ys bz bR bL bf bP bu aZ bn bN bg bQ bj bq bh bU bV bK aQ aR
attribute [local go_sem ↓] Zh
set_option linter.unusedVariables false
set_option linter.unusedSimpArgs false
set_option maxRecDepth 10000
theorem FK {T : Nat} {f : Nat → DV} {H h : Zb} {d : DV} {ws : List Nat} (hg : Grow T f H h d ws) (hf : ∀ x, Nr (f x)) : ∃ R, fin H h [d] = (R, H) ∧ ((R = .nils ∧ ws = []) ∨ R = .fresh T 1 (ws.map f)) := by
 obtain ⟨ht, hr⟩ := hg
 rcases hr with ⟨rfl, rfl⟩ | ⟨g, o, rfl, h2, h3⟩
 ·exact ⟨.nils, by simp [fin, ht, aO, aV], .inl ⟨rfl, rfl⟩⟩
 ·refine ⟨.fresh T 1 (ws.map f), ?_, .inr rfl⟩
  have hN : ∀ x ∈ ws.map f, Nr x := fun x hx => by
   obtain ⟨n, _, rfl⟩ := List.mem_map.1 hx
   exact hf n
  simp only [fin]
  rw [if_pos ht]
  simp only [aO, aV]
  rw [if_neg (by omega), h3]
  simp only
  rw [if_pos ⟨rfl, by simp, hN⟩]
  simp
theorem Hq {H : Zb} {L : DV} {bs : List Nat} (hL : ∀ g, vw g 1 L = some (bs.map bD)) (bb : BB bs) (hb : bs.length ≤ 10000) :
 ∀ (k i : Nat) (o : DV) (h : Zb), bs.length - i ≤ k → i ≤ bs.length → Grow 3 iD H h o (bA (bs.take i) 8) → ∃ y o' h' ex, C X (.loop og) [(0, L), (3, o), (4, .int .i64 i)] h = some (.exit 0, (0, L) :: (3, o') :: (4, y) :: ex, h') ∧ Grow 3 iD H h' o' (bA bs 8) := by
 intro k
 induction k with
 | zero =>
  intro i o h hk hi hG
  obtain rfl : i = bs.length := by omega
  rw [List.take_length] at hG
  refine ⟨.int .i64 bs.length, o, h, [(8, .bool false)], ?_, hG⟩
  rw [Zx]
  unfold og
  refine rn @hL ?_
  rw [ZS]
  simp [Za, lk]
 | succ k ih =>
  intro i o h hk hi hG
  by_cases c : i < bs.length
  ·obtain ⟨I, hI⟩ : ∃ I, I = i + 1 := ⟨_, rfl⟩
   have z1 : IntKind.i64.wrap ((i : Int) + 1) = (I : Int) := wr
   have hat := Ck 8 bs i c
   rw [← hI] at hat
   have hn := bb _ (List.getElem_mem c)
   obtain ⟨n, hnn⟩ : ∃ n, n = bs[i] := ⟨_, rfl⟩
   rw [← hnn] at hat hn
   have C4 := hnn.symm
   have lX : bs[i]? = some n := by rw [List.getElem?_eq_getElem c, hnn]
   have hlen : (bA (bs.take i) 8).length ≤ 10000 * 8 := by
    rw [nj]
    exact Nat.mul_le_mul (by rw [List.length_take]; omega) (Nat.le_refl _)
   have pK := hG.vw0
   have z2 : IntKind.i64.wrap (n : Int) = (n : Int) := wrap64 _ (by omega) (by omega)
   obtain ⟨d, Du, hD⟩ := Kk (H := h) n 8 (by omega) (by omega)
   have Du : E X 77 [.int .i64 n, .int .i64 8] h = some (d, h) := Du
   have h8 := i6 n 8
   rcases hD with ⟨_, hnil⟩ | rfl
   ·rw [hnil] at h8; cases h8
   have l8 := hG.ext [.row 3 1 0 ((eA n 8).map iD)]
   obtain ⟨o', h', ha, ry⟩ := l8.app 8 (eA n 8) (by rw [h8]; omega)
   rw [← hat] at ry
   have hw2 := hG.vw [.row 3 1 0 ((eA n 8).map iD)]
   have s1 : aJ (h ++ [.row 3 1 0 ((eA n 8).map iD)]) 1 (.row h.length 0 0 (eA n 8).length false) = some ((eA n 8).map iD) := by
    simp [aJ, vw, List.take_of_length_le]
   have hs : C X og [(0, L), (3, o), (4, .int .i64 i)] h = some (.norm, [(0, L), (3, o'), (4, .int .i64 I)], h') := by
    clear ih hG ry hat l8
    generalize bA (bs.take i) 8 = aw at *
    generalize eA n 8 = nw at *
    unfold og
    refine aT (eJ @c @z1 @z2 @hL @pK @lX @C4 @Du @hw2 @s1 @ha) ?_
    simp [Za, lk]
   rw [Zx, hs, ZZ]
   exact ih I o' h' (by omega) (by omega) ry
  ·exact ih i o h (by omega) hi hG
theorem Ku {H : Zb} {L : DV} {bs : List Nat} (hL : ∀ g, vw g 1 L = some (bs.map bD)) (bb : BB bs) (hb : bs.length ≤ 10000) : ∃ d, E X 48 [L] H = some (d, H) ∧ ((d = .nils ∧ bA bs 8 = []) ∨ d = .fresh 3 1 ((bA bs 8).map iD)) := by
 obtain ⟨y, o', h', ex, hc, hG⟩ := Hq (H := H) hL bb hb bs.length 0 .nils H (by omega) (by omega) Grow.zero
 obtain ⟨R, hf, hR⟩ := FK hG (fun x => .int _ _)
 refine ⟨R, ?_, hR⟩
 rw [show ((0 : Nat) : Int) = 0 from rfl] at hc
 clear hG hR
 generalize bA bs 8 = a at *
 rw [ZO (X := X) _ JL _ rfl rfl]; unfold JL
 refine rn trivial ?_
 refine aD ?_
 rw [hc]
 refine rn trivial ?_
 simp only [Zw, Yc, lk, Za, List.map_cons, List.map_nil, reduceIte, Option.map_some, hf]
theorem DR {bs : List Nat} {k : Nat} (hk : k < bs.length * 8) : decide ((bA bs 8).getD k 0 = 1) = eD bs k := by
 rw [qv (by omega) bs k hk]
 exact E7 bs k
theorem zH {bs : List Nat} {w i : Nat} (h : i * w + w ≤ 8 * bs.length) : ec (((bA bs 8).drop (i * w)).take w) = eW bs w i w := by
 apply Nat.eq_of_testBit_eq
 intro j
 rw [uo _ (fun b hb => xV b (List.mem_of_mem_drop (List.mem_of_mem_take hb))), mK]
 by_cases c : j < w
 ·have e : (((bA bs 8).drop (i * w)).take w).getD j 0 = (bA bs 8).getD (i * w + j) 0 := by
   rw [List.getD_eq_getElem?_getD, List.getD_eq_getElem?_getD, List.getElem?_take, if_pos c, List.getElem?_drop]
  rw [e, DR (by omega)]
  simp [c]
 ·have e : (((bA bs 8).drop (i * w)).take w).getD j 0 = 0 := by
   rw [List.getD_eq_getElem?_getD, List.getElem?_take, if_neg c]; rfl
  rw [e]
  simp [c]
theorem tV {x r : Nat} (hx : x < 256) (hr : r ≤ 8) : x / 2 ^ r = 0 ↔ ∀ j, r ≤ j → j < 8 → x / 2 ^ j % 2 = 0 := by
 constructor
 ·intro h j h1 _
  have h2 : x < 2 ^ r := by
   rcases Nat.div_eq_zero_iff.1 h with h3 | h3
   ·have := Nat.two_pow_pos r; omega
   ·exact h3
  rw [Nat.div_eq_of_lt (Nat.lt_of_lt_of_le h2 (Nat.pow_le_pow_right (by omega) h1))]
 ·intro h
  apply Nat.eq_of_testBit_eq
  intro j
  rw [Nat.testBit_div_two_pow, Nat.zero_testBit]
  by_cases c : j + r < 8
  ·have := h (j + r) (by omega) c
   have h2 := zu x (j + r)
   rw [this] at h2
   simpa using h2.symm
  ·exact Nat.testBit_lt_two_pow (Nat.lt_of_lt_of_le (show x < 2 ^ 8 from hx) (Nat.pow_le_pow_right (by omega) (by omega)))
theorem CR {bs : List Nat} {w n : Nat} (bb : BB bs) (hl : bs.length = (n * w + 7) / 8) : gi bs w n ↔ ∀ k, n * w ≤ k → k < 8 * bs.length → (bA bs 8).getD k 0 = 0 := by
 unfold gi
 generalize n * w = P at *
 have ae : ∀ k, k < 8 * bs.length → (bA bs 8).getD k 0 = bs.getD (k / 8) 0 / 2 ^ (k % 8) % 2 := fun k hk => qv (by omega) bs k (by omega)
 constructor
 ·rintro ⟨_, h⟩ k h1 h2
  rw [ae k h2]
  have hr : 0 < P % 8 := by omega
  have hq : k / 8 = bs.length - 1 := by omega
  rw [hq]
  exact (tV (bb.getD _) (by omega)).1 (h hr) (k % 8) (by omega) (by omega)
 ·intro h
  refine ⟨hl, fun hr => (tV (bb.getD _) (by omega)).2 fun j h1 h2 => ?_⟩
  have := h (8 * (bs.length - 1) + j) (by omega) (by omega)
  rw [ae _ (by omega), show (8 * (bs.length - 1) + j) / 8 = bs.length - 1 by omega, show (8 * (bs.length - 1) + j) % 8 = j by omega] at this
  exact this
theorem Av (bs : List Nat) (w i : Nat) : bF bs w (i + 1) = bF bs w i ++ [eW bs w i w] := by simp [bF, List.range_succ]
theorem Hw {H Ha : Zb} {A : DV} {bs : List Nat} {n w : Nat} (hA : Grow 3 iD H Ha A (bA bs 8)) (hw : w ≤ 61) (hn : n ≤ 4096) (hl : n * w ≤ 8 * bs.length) (hb : bs.length ≤ 10000) :
 ∀ (k i : Nat) (o : DV) (h : Zb), n - i ≤ k → i ≤ n → Grow 3 iD Ha h o (bF bs w i) → ∃ y o' h' ex, C X (.loop lR) [(1, .int .i64 n), (2, .int .i64 w), (8, A), (9, o), (10, .int .i64 i)] h = some (.exit 0, (1, .int .i64 n) :: (2, .int .i64 w) :: (8, A) :: (9, o') :: (10, y) :: ex, h') ∧ Grow 3 iD Ha h' o' (bF bs w n) := by
 intro k
 induction k with
 | zero =>
  intro i o h hk hi hG
  obtain rfl : i = n := by omega
  refine ⟨.int .i64 i, o, h, [(43, .bool false)], ?_, hG⟩
  rw [Zx]
  unfold lR
  refine rn trivial ?_
  rw [ZS]
  simp [Za, lk]
 | succ k ih =>
  intro i o h hk hi hG
  by_cases c : i < n
  ·obtain ⟨I, hI⟩ : ∃ I, I = i + 1 := ⟨_, rfl⟩
   have z1 : IntKind.i64.wrap ((i : Int) + 1) = (I : Int) := wr
   have OG : I * w ≤ n * w := Nat.mul_le_mul_right w (by omega)
   have LY : I * w = i * w + w := by rw [hI, Nat.succ_mul]
   have lj := zH (bs := bs) (w := w) (i := i) (by omega)
   obtain ⟨q, hq⟩ : ∃ q, q = i * w := ⟨_, rfl⟩
   obtain ⟨q2, hq2⟩ : ∃ q2, q2 = I * w := ⟨_, rfl⟩
   have z2 : IntKind.i64.wrap ((i : Int) * (w : Int)) = (q : Int) := by
    rw [← Int.natCast_mul, ← hq, wrap64 _ (by omega) (by omega)]
   have z3 : IntKind.i64.wrap ((I : Int) * (w : Int)) = (q2 : Int) := by
    rw [← Int.natCast_mul, ← hq2, wrap64 _ (by omega) (by omega)]
   rw [← hq] at lj LY
   rw [← hq2] at LY OG
   have hal := nj 8 bs
   have hK := hA.keep hG.1
   have hv := hK.vw0
   have hle : ∀ b ∈ ((bA bs 8).drop q).take w, b ≤ 1 := fun b hb => xV b (List.mem_of_mem_drop (List.mem_of_mem_take hb))
   have hsc := Av bs w i
   rw [← hI] at hsc
   obtain ⟨o2, h2, ha, l8⟩ := hG.app 8 [eW bs w i w] (by rw [dV]; simp; omega)
   rw [← hsc] at l8
   have fT := ih I o2 h2 (by omega) (by omega) l8
   have pK := hG.vw0
   have y1 : ∀ (a : Int) h, cM [.int .i64 a] h = some ([.int .i64 a], h) := fun _ _ => rfl
   have y2 : ∀ a, Wc 1 (.int .i64 a) := fun a => by simp [Wc, DV.cells, DV.one]
   have y3 : ∀ a, Nr (.int .i64 a) := fun a => .int _ _
   have y4 : ∀ (a : Int) h, aJ h 1 (.list 1 [.int .i64 a] true) = some [.int .i64 a] := fun _ _ => rfl
   have hs : C X lR [(1, .int .i64 n), (2, .int .i64 w), (8, A), (9, o), (10, .int .i64 i)] h = some (.norm, [(1, .int .i64 n), (2, .int .i64 w), (8, A), (9, o2), (10, .int .i64 I)], h2) := by
    rcases hK.2 with ⟨rfl, hnil⟩ | ⟨g, r, rfl, _, h3⟩
    ·rw [hnil] at hal lj
     simp only [List.length_nil] at hal
     obtain rfl : q = 0 := by omega
     obtain rfl : q2 = 0 := by omega
     have e := Ek (h := h) (L := .nils) (l := []) rfl (by simp) (by simp)
     rw [List.drop_nil, List.take_nil] at lj
     rw [lj] at e
     clear ih fT hA hK hG l8 hsc hle lj
     generalize eW bs w i w = v at *
     generalize bF bs w i = cur at *
     have ha : aX h 3 1 8 o (cur.map iD) [.int .i64 v] = some (o2, h2) := ha
     unfold lR
     refine Ld (lm @c @z1 @z2 @z3 @hv @pK @e @ha @y1 @y2 @y3 @y4) ?_
     simp [Za, lk]
    ·have c1 : q ≤ q2 := by omega
     have c2 : q2 ≤ (bA bs 8).length := by omega
     have c4 : q2 - q = w := by omega
     have xj : vw h 1 (.row r g q w false) = some ((((bA bs 8).drop q).take w).map iD) := by
      have : q + w ≤ (bA bs 8).length := by omega
      simp [vw, h3, this, List.map_drop, List.map_take]
     have e := Ek xj hle (by rw [List.length_take]; omega)
     rw [lj] at e
     clear ih fT hA hK hG l8 hsc hle lj xj
     generalize eW bs w i w = v at *
     generalize bF bs w i = cur at *
     generalize bA bs 8 = a at *
     have ha : aX h 3 1 8 o (cur.map iD) [.int .i64 v] = some (o2, h2) := ha
     unfold lR
     refine Ld (zc @c @z1 @z2 @z3 @hv @pK @c1 @c2 @c4 @e @ha @y1 @y2 @y3 @y4) ?_
     simp [Za, lk]
   rw [Zx, hs, ZZ]
   exact fT
  ·exact ih i o h (by omega) hi hG
theorem FD {h : Zb} {A O : DV} {a : List Nat} (hA : vw h 1 A = some (a.map iD)) (hb : a.length ≤ 1000000) :
 ∀ (m k : Nat), a.length - k ≤ m → k ≤ a.length → (∃ ex, C X (.loop jo) [(8, A), (9, O), (11, .int .i64 k)] h = some (.exit 2, (8, A) :: (9, O) :: ex, h) ∧ ∀ j, k ≤ j → j < a.length → a.getD j 0 = 0) ∨ (C X (.loop jo) [(8, A), (9, O), (11, .int .i64 k)] h = some (.ret, [(6, .nils), (7, .int .i64 7)], h) ∧ ¬ ∀ j, k ≤ j → j < a.length → a.getD j 0 = 0) := by
 intro m
 induction m with
 | zero =>
  intro k hm hk
  obtain rfl : k = a.length := by omega
  refine .inl ⟨[(11, .int .i64 a.length), (65, .bool false)], ?_, fun j h1 h2 => by omega⟩
  rw [Zx]
  unfold jo
  refine rn @hA ?_
  rw [ZS]
  simp [Za, lk]
 | succ m ih =>
  intro k hm hk
  by_cases c : k < a.length
  ·obtain ⟨K, hK⟩ : ∃ K, K = k + 1 := ⟨_, rfl⟩
   have z1 : IntKind.i64.wrap ((k : Int) + 1) = (K : Int) := wr
   obtain ⟨x, hx⟩ : ∃ x, x = a[k] := ⟨_, rfl⟩
   have dl : a[k]? = some x := by rw [hx]; exact List.getElem?_eq_getElem c
   have hx' := hx.symm
   have hgd : a.getD k 0 = x := by rw [List.getD_eq_getElem?_getD, dl]; rfl
   by_cases h0 : x = 0
   ·have q0 : ((x : Int) != 0) = false := by simp [h0]
    have hs : C X jo [(8, A), (9, O), (11, .int .i64 k)] h = some (.norm, [(8, A), (9, O), (11, .int .i64 K)], h) := by
     clear ih
     unfold jo
     refine aT (kE @c @z1 @hA @dl @hx' @h0 @q0) ?_
     simp [Za, lk]
    rw [Zx, hs, ZZ]
    rcases ih K (by omega) (by omega) with ⟨ex, h1, h2⟩ | ⟨h1, h2⟩
    ·refine .inl ⟨ex, h1, fun j h3 h4 => ?_⟩
     by_cases e : j = k
     ·rw [e, hgd, h0]
     ·exact h2 j (by omega) h4
    ·exact .inr ⟨h1, fun h3 => h2 fun j h4 h5 => h3 j (by omega) h5⟩
   ·right
    have q0 : ((x : Int) != 0) = true := by simpa using h0
    have hs : C X jo [(8, A), (9, O), (11, .int .i64 k)] h = some (.ret, [(6, .nils), (7, .int .i64 7)], h) := by
     clear ih
     unfold jo
     refine aT (kE @c @z1 @hA @dl @hx' @h0 @q0) ?_
     simp [Za, lk]
    rw [Zx, hs, cQ]
    exact ⟨rfl, fun h3 => h0 (by rw [← hgd]; exact h3 k (Nat.le_refl _) c)⟩
  ·exact ih k (by omega) hk
set_option maxHeartbeats 2000000 in
theorem KF {H : Zb} {L : DV} {bs : List Nat} {w n : Nat} (hL : ∀ g, vw g 1 L = some (bs.map bD)) (bb : BB bs) (hb : bs.length ≤ 10000) (hw : w ≤ 61) (hn : n ≤ 4096) :
 ∃ R e, E X 27 [L, .int .i64 n, .int .i64 w] H = some (.tup [R, .int .i64 e], H) ∧ ((gi bs w n ∧ e = 0 ∧ ((R = .nils ∧ bF bs w n = []) ∨ R = .list 1 ((bF bs w n).map iD) false)) ∨ (¬ gi bs w n ∧ (e != 0) = true)) := by
 have hmul : n * w ≤ 4096 * 61 := Nat.mul_le_mul hn hw
 obtain ⟨P, hP⟩ : ∃ P, P = n * w := ⟨_, rfl⟩
 have z1 : IntKind.i64.wrap ((n : Int) * (w : Int)) = (P : Int) := by
  rw [← Int.natCast_mul, ← hP, wrap64 _ (by omega) (by omega)]
 obtain ⟨B8, Po⟩ : ∃ B8, B8 = 8 * bs.length := ⟨_, rfl⟩
 have z2 : IntKind.i64.wrap (8 * (bs.length : Int)) = (B8 : Int) := by
  rw [wrap64 _ (by omega) (by omega)]; omega
 obtain ⟨P7, Pm⟩ : ∃ P7, P7 = P + 7 := ⟨_, rfl⟩
 have z3 : IntKind.i64.wrap ((P : Int) + 7) = (P7 : Int) := wr
 obtain ⟨m, hm⟩ : ∃ m, m = P7 / 8 := ⟨_, rfl⟩
 have z4 : IntKind.i64.wrap ((P7 : Int) / 8) = (m : Int) := wr
 have uk : ((P7 : Int)).tdiv 8 = (m : Int) := by rw [Int.tdiv_eq_ediv_of_nonneg (by omega)]; omega
 have uj : IntKind.i64.wrap (m : Int) = (m : Int) := wrap64 _ (by omega) (by omega)
 have d1 : ¬ (4096 : Int) < (n : Int) := by omega
 have d2 : ¬ 4096 < n := by omega
 have d3 : ¬ (n : Int) < 0 := by omega
 have d4 : ¬ (62 : Int) < (w : Int) := by omega
 have d5 : ¬ 62 < w := by omega
 have d6 : ¬ (w : Int) < 0 := by omega
 by_cases c1 : B8 < P
 ·refine ⟨.nils, 6, ?_, .inr ⟨?_, rfl⟩⟩
  ·have iY : (B8 : Int) < (P : Int) := by omega
   rw [ZO (X := X) _ mA _ rfl rfl]; unfold mA; exact rg (eJ @hL @z1 @z2 @d1 @d2 @d3 @d4 @d5 @d6 @c1 @iY)
  ·unfold gi
   rw [← hP]
   rintro ⟨h, _⟩; omega
 have iY : ¬ (B8 : Int) < (P : Int) := by omega
 by_cases c2 : m < bs.length
 ·refine ⟨.nils, 7, ?_, .inr ⟨?_, rfl⟩⟩
  ·have kH : (m : Int) < (bs.length : Int) := by omega
   rw [ZO (X := X) _ mA _ rfl rfl]; unfold mA; exact rg (zb @hL @z1 @z2 @z3 @z4 @uk @uj @d1 @d2 @d3 @d4 @d5 @d6 @c1 @iY @c2 @kH)
  ·unfold gi
   rw [← hP]
   rintro ⟨h, _⟩; omega
 have kH : ¬ (m : Int) < (bs.length : Int) := by omega
 have hlen : bs.length = (n * w + 7) / 8 := by rw [← hP]; omega
 obtain ⟨d, ES, hd⟩ := Ku (H := H) hL bb hb
 have hal := nj 8 bs
 have y9 : ∀ {Ha h2 : Zb} {o : DV}, Ha.take H.length = H → Grow 3 iD Ha h2 o (bF bs w n) → ∃ R, fin H h2 [o, .int .i64 0] = (.tup [R, .int .i64 0], H) ∧ ((R = .nils ∧ bF bs w n = []) ∨ R = .list 1 ((bF bs w n).map iD) false) := by
  intro Ha h2 o ht hG
  have hle := fo ht
  refine xG (T := 3) (f := iD) ⟨?_, ?_⟩ (fun x => .int _ _) 0
  ·have h5 : h2.take H.length = (h2.take Ha.length).take H.length := by rw [List.take_take, Nat.min_eq_left hle]
   rw [h5, hG.1, ht]
  ·rcases hG.2 with h | ⟨g, oo, h1, h2, h3⟩
   ·exact .inl h
   ·exact .inr ⟨g, oo, h1, by omega, h3⟩
 have vK : ∀ {h2 : Zb}, h2.take H.length = H → fin H h2 [.nils, .int .i64 7] = (.tup [.nils, .int .i64 7], H) := by
  intro h2 ht
  simp only [fin]
  rw [if_pos ht]
  rfl
 have main : ∀ (A : DV) (Ha : Zb), Grow 3 iD H Ha A (bA bs 8) → (d = .nils ∧ A = .nils ∧ Ha = H ∨ d = .fresh 3 1 ((bA bs 8).map iD) ∧ A = .row H.length 0 0 (bA bs 8).length false ∧ Ha = H ++ [.row 3 1 0 ((bA bs 8).map iD)]) → ∃ R e, E X 27 [L, .int .i64 n, .int .i64 w] H = some (.tup [R, .int .i64 e], H) ∧ ((gi bs w n ∧ e = 0 ∧ ((R = .nils ∧ bF bs w n = []) ∨ R = .list 1 ((bF bs w n).map iD) false)) ∨ (¬ gi bs w n ∧ (e != 0) = true)) := by
  intro A Ha hA hsh
  obtain ⟨y, o2, h2, ex, hc, hG⟩ := Hw hA hw hn (by omega) hb n 0 .nils Ha (by omega) (by omega) Grow.zero
  rw [show ((0 : Nat) : Int) = 0 from rfl] at hc
  have nB := (hA.keep hG.1).vw0
  have vo : P ≤ (bA bs 8).length := by omega
  have NZ : h2.take H.length = H := by
   have hle := fo hA.1
   have h5 : h2.take H.length = (h2.take Ha.length).take H.length := by rw [List.take_take, Nat.min_eq_left hle]
   rw [h5, hG.1, hA.1]
  have hpt := CR (w := w) (n := n) bb hlen
  rw [← hP] at hpt
  rcases FD (O := o2) nB (by omega) ((bA bs 8).length - P) P (by omega) vo with ⟨OW, hc2, hz⟩ | ⟨hc2, hz⟩
  ·obtain ⟨R, aB, hR⟩ := y9 hA.1 hG
   refine ⟨R, 0, ?_, .inl ⟨hpt.2 (fun k h1 h2 => hz k h1 (by omega)), rfl, hR⟩⟩
   clear hG hA hpt hz y9 vK hR hd vo hal
   generalize bA bs 8 = a at *
   rcases hsh with ⟨rfl, rfl, rfl⟩ | ⟨rfl, rfl, rfl⟩
   ·rw [ZO (X := X) _ mA _ rfl rfl]; unfold mA
    refine rn (za @hL @ES @z1 @z2 @z3 @z4 @uk @uj @d1 @d2 @d3 @d4 @d5 @d6 @c1 @iY @c2 @kH) ?_
    refine aD ?_
    rw [hc]
    refine rn @z1 ?_
    refine aD ?_
    rw [hc2]
    refine rn trivial ?_
    simp only [Zw, Yc, lk, Za, List.map_cons, List.map_nil, reduceIte, Option.map_some, Nat.reduceEqDiff, aB]
   ·have AK : (a.map iD).length = a.length := by simp
    rw [ZO (X := X) _ mA _ rfl rfl]; unfold mA
    refine rn (sK @hL @ES @z1 @z2 @z3 @z4 @uk @uj @d1 @d2 @d3 @d4 @d5 @d6 @c1 @iY @c2 @kH @AK) ?_
    refine aD ?_
    rw [hc]
    refine rn @z1 ?_
    refine aD ?_
    rw [hc2]
    refine rn trivial ?_
    simp only [Zw, Yc, lk, Za, List.map_cons, List.map_nil, reduceIte, Option.map_some, Nat.reduceEqDiff, aB]
  ·have aB := vK NZ
   refine ⟨.nils, 7, ?_, .inr ⟨fun h => hz fun j h1 h2 => hpt.1 h j h1 (by omega), rfl⟩⟩
   clear hG hA hpt hz y9 vK hd vo hal
   generalize bA bs 8 = a at *
   rcases hsh with ⟨rfl, rfl, rfl⟩ | ⟨rfl, rfl, rfl⟩
   ·rw [ZO (X := X) _ mA _ rfl rfl]; unfold mA
    refine rn (za @hL @ES @z1 @z2 @z3 @z4 @uk @uj @d1 @d2 @d3 @d4 @d5 @d6 @c1 @iY @c2 @kH) ?_
    refine aD ?_
    rw [hc]
    refine rn @z1 ?_
    refine aD ?_
    rw [hc2]
    refine rn trivial ?_
    simp only [Zw, Yc, lk, Za, List.map_cons, List.map_nil, reduceIte, Option.map_some, Nat.reduceEqDiff, aB]
   ·have AK : (a.map iD).length = a.length := by simp
    rw [ZO (X := X) _ mA _ rfl rfl]; unfold mA
    refine rn (sK @hL @ES @z1 @z2 @z3 @z4 @uk @uj @d1 @d2 @d3 @d4 @d5 @d6 @c1 @iY @c2 @kH @AK) ?_
    refine aD ?_
    rw [hc]
    refine rn @z1 ?_
    refine aD ?_
    rw [hc2]
    refine rn trivial ?_
    simp only [Zw, Yc, lk, Za, List.map_cons, List.map_nil, reduceIte, Option.map_some, Nat.reduceEqDiff, aB]
 rcases hd with ⟨rfl, hnil⟩ | rfl
 ·exact main .nils H (by rw [hnil]; exact Grow.zero) (.inl ⟨rfl, rfl, rfl⟩)
 ·exact main (.row H.length 0 0 (bA bs 8).length false) (H ++ [.row 3 1 0 ((bA bs 8).map iD)]) ⟨by simp, .inr ⟨0, H.length, rfl, Nat.le_refl _, by simp⟩⟩ (.inr ⟨rfl, rfl, rfl⟩)
end Go.Proofs.YteekbciaggmfgaaDoor
namespace Go.Proofs.YteekbciaggmfgaaDoor
set_option linter.unusedVariables false
set_option linter.unusedSimpArgs false
set_option maxRecDepth 10000
def cE (T sz : Nat) (H h : Zb) (d : DV) (xs : List DV) : Prop :=
 h.take H.length = H ∧ ((d = .nils ∧ xs = []) ∨ ∃ g o, d = .row o g 0 xs.length false ∧ H.length ≤ o ∧ h[o]? = some (.row T sz g xs))
theorem fG {H h : Zb} (ht : h.take H.length = H) : H.length ≤ h.length := by
 have := congrArg List.length ht
 rw [List.length_take] at this; omega
section
variable {T sz : Nat} {H h : Zb} {d : DV} {xs : List DV}
theorem cE.zero : cE T sz H H .nils [] := ⟨List.take_length, .inl ⟨rfl, rfl⟩⟩
theorem cE.ext (hg : cE T sz H h d xs) (G : Zb) : cE T sz H (h ++ G) d xs := by
 obtain ⟨ht, hr⟩ := hg
 refine ⟨?_, ?_⟩
 ·rw [List.take_append_of_le_length (fG ht)]; exact ht
 ·rcases hr with hr | ⟨g, o, h1, h2, h3⟩
  ·exact .inl hr
  ·exact .inr ⟨g, o, h1, h2, by rw [List.getElem?_append_left (List.getElem?_eq_some_iff.1 h3).1]; exact h3⟩
theorem cE.vw (hg : cE T sz H h d xs) : vw h sz d = some xs := by
 rcases hg.2 with ⟨rfl, rfl⟩ | ⟨g, o, rfl, h2, h3⟩
 ·rfl
 ·simp [Go.Proofs.YteekbciaggmfgaaDoor.vw, h3, List.take_of_length_le]
theorem cE.app (hg : cE T sz H h d xs) (b : Nat) (ys : List DV) (hb : (xs.length + ys.length) * b ≤ 140737488355328) : ∃ d' h', aX h T sz b d xs ys = some (d', h') ∧ cE T sz H h' d' (xs ++ ys) := by
 by_cases hy : ys = []
 ·subst hy
  exact ⟨d, h, by simp [aX], by rw [List.append_nil]; exact hg⟩
 ·obtain ⟨ht, hr⟩ := hg
  rcases hr with ⟨rfl, rfl⟩ | ⟨g, o, rfl, h2, h3⟩
  ·refine ⟨.row h.length 0 0 ys.length false, h ++ [.row T sz 0 ys], ?_, ?_, .inr ⟨0, h.length, by simp, fG ht, by simp⟩⟩
   ·simp only [aX, if_neg hy]
    rw [if_pos hb]
   ·rw [List.take_append_of_le_length (fG ht)]; exact ht
  ·have hlt := (List.getElem?_eq_some_iff.1 h3).1
   refine ⟨.row o (g + 1) 0 (xs.length + ys.length) false, h.set o (.row T sz (g + 1) (xs ++ ys)), ?_, ?_, .inr ⟨g + 1, o, by simp, h2, ?_⟩⟩
   ·simp only [aX, if_neg hy, h3]
    rw [if_pos hb]
    simp
   ·rw [List.take_set_of_le h2]; exact ht
   ·rw [List.getElem?_set_self hlt]
theorem cE.fin (hg : cE T sz H h d xs) (hn : ∀ x ∈ xs, Nr x) : (d = .nils ∧ fin H h [d] = (.nils, H)) ∨ (d ≠ .nils ∧ fin H h [d] = (.fresh T sz xs, H)) := by
 obtain ⟨ht, hr⟩ := hg
 rcases hr with ⟨rfl, rfl⟩ | ⟨g, o, rfl, h2, h3⟩
 ·exact .inl ⟨rfl, by simp [Go.Proofs.YteekbciaggmfgaaDoor.fin, ht, aO, aV]⟩
 ·refine .inr ⟨by simp, ?_⟩
  simp only [Go.Proofs.YteekbciaggmfgaaDoor.fin]
  rw [if_pos ht]
  simp only [aO, aV]
  rw [if_neg (by omega), h3]
  simp only
  rw [if_pos ⟨rfl, by simp, hn⟩]
  simp
end
theorem jX {H h : Zb} (ht : h.take H.length = H) {o : Nat} {x : HO} (hx : H[o]? = some x) : h[o]? = some x := by
 have hlt := (List.getElem?_eq_some_iff.1 hx).1
 have : (h.take H.length)[o]? = some x := by rw [ht]; exact hx
 rw [List.getElem?_take, if_pos hlt] at this
 exact this
theorem cE.base {T sz : Nat} {H H1 h : Zb} {d : DV} {xs : List DV} (hg : cE T sz H1 h d xs) (hH : H1.take H.length = H) : cE T sz H h d xs := by
 have hl := fG hH
 refine ⟨?_, ?_⟩
 ·have h5 : h.take H.length = (h.take H1.length).take H.length := by rw [List.take_take, Nat.min_eq_left hl]
  rw [h5, hg.1, hH]
 ·rcases hg.2 with h1 | ⟨g, o, h1, h2, h3⟩
  ·exact .inl h1
  ·exact .inr ⟨g, o, h1, by omega, h3⟩
end Go.Proofs.YteekbciaggmfgaaDoor
namespace Go.Proofs.YteekbciaggmfgaaDoor
attribute [local go_sem] ZF Zy ZA ZB Zp Zf Zm Zi Zk Zc Zd Zj Zq Zr ZC Zo Zg Zz Zu Zt ZR Zv Yj put lk Od.v Za Ze Zl Yv Yb Ya Yd ai Yt DV.isU DV.cells ae ZJ ZX ZK Zn splice ZM af ZT Ys bz bR bL bf bP bu aZ bn bN bg bQ bj bq bh bU bV bK aQ aR
attribute [local go_sem ↓] Zh
set_option linter.unusedVariables false
set_option linter.unusedSimpArgs false
set_option maxRecDepth 10000
theorem wV {h : Zb} {r g t n : Nat} {bl : List Bool} (h1 : h[r]? = some (.row t 1 g (bl.map DV.bool))) (hn : bl.length = n) : vw h 1 (.row r g 0 n false) = some (bl.map DV.bool) := by
 subst hn; simp [vw, h1, List.take_of_length_le]
theorem Fq {h : Zb} {r g t n : Nat} {bl : List Bool} (h1 : h[r]? = some (.row t 1 g (bl.map DV.bool))) (hn : bl.length = n) {i : Nat} (hi : i < n) (b : Bool) : stx h 1 (.elem (.row r g 0 n false) 1 i 0) (.bool b) = some (h.set r (.row t 1 g ((bl.set i b).map DV.bool))) := by
 subst hn
 have h2 : (bl.map DV.bool)[i]? = some (.bool bl[i]) := by simp [List.getElem?_eq_getElem hi]
 rw [stx, if_pos (by simp [DV.cells, DV.one])]
 simp only [h1]
 rw [if_pos (by simp [hi])]
 simp only [Nat.zero_add, h2]
 simp [mW, DV.one]
def aH (l : List Nat) (m : Nat) : List Bool := (List.range m).map fun k => decide (k ∈ l)
theorem eO (l : List Nat) (m : Nat) : (aH l m).length = m := by simp [aH]
theorem zO (l : List Nat) (m p : Nat) : (aH l m).set p true = aH (l ++ [p]) m := by
 apply List.ext_getElem?
 intro k
 by_cases c : k < m
 ·have h1 : (aH (l ++ [p]) m)[k]? = some (decide (k ∈ l ++ [p])) := by unfold aH; simp [c]
  rw [h1]
  by_cases e : p = k
  ·subst e
   rw [List.getElem?_set_self (by rw [eO]; exact c)]
   simp
  ·rw [List.getElem?_set_ne e]
   unfold aH
   have e' : ¬ k = p := fun h => e h.symm
   simp [c, e']
 ·rw [List.getElem?_eq_none (by rw [List.length_set, eO]; omega), List.getElem?_eq_none (by rw [eO]; omega)]
def sh (H : Zb) (n : Int) (D B : DV) (bl : List Bool) : Zb := H ++ [.box 25 [.int .i64 n, D, B], .row 4 1 0 (bl.map DV.bool)]
theorem KV {H : Zb} {n : Int} {D B R : DV} {ys : List V} {il : List Nat} (hD : ∀ g, vw g 4 D = some (ys.map V.d)) (hR : ∀ g, vw g 1 R = some (il.map iD)) (hb : il.length ≤ 4096) (cH : ys.length ≤ 1000) :
 ∀ (k i : Nat), il.length - i ≤ k → i ≤ il.length → ((∀ p ∈ il.drop i, p < ys.length) ∧ ∃ ex, C X (.loop kV) [(1, .ref H.length 0), (5, R), (7, .row (H.length + 1) 0 0 ys.length false), (8, .int .i64 i)] (sh H n D B (aH (il.take i) ys.length)) = some (.exit 0, (1, .ref H.length 0) :: (5, R) :: (7, .row (H.length + 1) 0 0 ys.length false) :: ex, sh H n D B (aH il ys.length))) ∨ (¬ (∀ p ∈ il.drop i, p < ys.length) ∧ ∃ h', C X (.loop kV) [(1, .ref H.length 0), (5, R), (7, .row (H.length + 1) 0 0 ys.length false), (8, .int .i64 i)] (sh H n D B (aH (il.take i) ys.length)) = some (.ret, [(2, .nils), (3, .bool false)], h') ∧ h'.take H.length = H) := by
 intro k
 induction k with
 | zero =>
  intro i hk hi
  obtain rfl : i = il.length := by omega
  rw [List.take_length, List.drop_length]
  refine .inl ⟨by simp, [(8, .int .i64 il.length), (46, .bool false)], ?_⟩
  generalize sh H n D B (aH il ys.length) = P
  rw [Zx]
  unfold kV
  refine rn @hR ?_
  rw [ZS]
  simp [Za, lk]
 | succ k ih =>
  intro i hk hi
  by_cases c : i < il.length
  ·obtain ⟨I, hI⟩ : ∃ I, I = i + 1 := ⟨_, rfl⟩
   have z1 : IntKind.i64.wrap ((i : Int) + 1) = (I : Int) := wr
   obtain ⟨p, dF⟩ : ∃ p, p = il[i] := ⟨_, rfl⟩
   have eG := dF.symm
   have hpi : il[i]? = some p := by rw [List.getElem?_eq_getElem c, dF]
   have pQ : il.drop i = p :: il.drop I := by rw [List.drop_eq_getElem_cons c, ← dF, hI]
   have htk : il.take I = il.take i ++ [p] := by rw [hI, ← List.take_append_getElem c, ← dF]
   have f1 : (sh H n D B (aH (il.take i) ys.length))[H.length]? = some (.box 25 [.int .i64 n, D, B]) := by simp [sh]
   have f2 : (sh H n D B (aH (il.take i) ys.length))[H.length + 1]? = some (.row 4 1 0 ((aH (il.take i) ys.length).map DV.bool)) := by simp [sh, ae]
   by_cases hlt : p < ys.length
   ·have d1 : ¬ (ys.length : Int) ≤ (p : Int) := by omega
    have d2 : ¬ ys.length ≤ p := by omega
    have r1 := wV f2 (eO _ _)
    have r2 := Fq f2 (eO _ _) hlt true
    have ZX : (sh H n D B (aH (il.take i) ys.length)).set (H.length + 1) (.row 4 1 0 (((aH (il.take i) ys.length).set p true).map DV.bool)) = sh H n D B (aH (il.take I) ys.length) := by
     rw [zO, ← htk]
     simp [sh, ZX]
    rw [ZX] at r2
    have hsl : ((aH (il.take i) ys.length).map DV.bool).length = ys.length := by rw [List.length_map, eO]
    have hs : C X kV [(1, .ref H.length 0), (5, R), (7, .row (H.length + 1) 0 0 ys.length false), (8, .int .i64 i)] (sh H n D B (aH (il.take i) ys.length)) = some (.norm, [(1, .ref H.length 0), (5, R), (7, .row (H.length + 1) 0 0 ys.length false), (8, .int .i64 I)], sh H n D B (aH (il.take I) ys.length)) := by
     clear ih ZX
     generalize (aH (il.take i) ys.length).map DV.bool = sl at *
     generalize sh H n D B (aH (il.take I) ys.length) = P2 at *
     generalize sh H n D B (aH (il.take i) ys.length) = P1 at *
     unfold kV
     refine aT (mU @c @z1 @hR @hD @eG @hpi @f1 @r1 @r2 @d1 @d2 @hlt @hsl) ?_
     simp [Za, lk]
    rw [Zx, hs, ZZ, pQ]
    rcases ih I (by omega) (by omega) with ⟨h1, h2⟩ | ⟨h1, h2⟩
    ·refine .inl ⟨fun q hq => ?_, h2⟩
     rcases List.mem_cons.1 hq with rfl | hq
     ·exact hlt
     ·exact h1 q hq
    ·exact .inr ⟨fun h => h1 fun q hq => h q (List.mem_cons_of_mem _ hq), h2⟩
   ·right
    have d1 : (ys.length : Int) ≤ (p : Int) := by omega
    have d2 : ys.length ≤ p := by omega
    refine ⟨fun h => hlt (h p (by rw [pQ]; exact List.mem_cons_self ..)), sh H n D B (aH (il.take i) ys.length), ?_, by simp [sh]⟩
    have hs : C X kV [(1, .ref H.length 0), (5, R), (7, .row (H.length + 1) 0 0 ys.length false), (8, .int .i64 i)] (sh H n D B (aH (il.take i) ys.length)) = some (.ret, [(2, .nils), (3, .bool false)], sh H n D B (aH (il.take i) ys.length)) := by
     clear ih
     generalize sh H n D B (aH (il.take i) ys.length) = P1 at *
     unfold kV
     refine aT (jC @c @z1 @hR @hD @eG @hpi @f1 @d1 @d2) ?_
     simp [Za, lk]
    rw [Zx, hs, cQ]
  ·exact ih i (by omega) hi
theorem G8 {h : Zb} {S R : DV} {il : List Nat} {m : Nat} (hS : vw h 1 S = some ((aH il m).map DV.bool)) (hm : m ≤ 1000) :
 ∀ (j k : Nat), m - k ≤ j → k ≤ m → ((∀ q, k ≤ q → q < m → q ∈ il) ∧ ∃ ex, C X (.loop kU) [(5, R), (7, S), (9, .int .i64 k)] h = some (.exit 2, (5, R) :: (7, S) :: ex, h)) ∨ (¬ (∀ q, k ≤ q → q < m → q ∈ il) ∧ C X (.loop kU) [(5, R), (7, S), (9, .int .i64 k)] h = some (.ret, [(2, .nils), (3, .bool false)], h)) := by
 have hsl : ((aH il m).map DV.bool).length = m := by rw [List.length_map, eO]
 intro j
 induction j with
 | zero =>
  intro k hj hk
  obtain rfl : k = m := by omega
  refine .inl ⟨fun q h1 h2 => by omega, [(9, .int .i64 k), (66, .bool false)], ?_⟩
  generalize (aH il k).map DV.bool = sl at *
  rw [Zx]
  unfold kU
  refine rn (cC @hS @hsl) ?_
  rw [ZS]
  simp [Za, lk]
 | succ j ih =>
  intro k hj hk
  by_cases c : k < m
  ·obtain ⟨K, hK⟩ : ∃ K, K = k + 1 := ⟨_, rfl⟩
   have z1 : IntKind.i64.wrap ((k : Int) + 1) = (K : Int) := wr
   have hg : ((aH il m).map DV.bool)[k]? = some (.bool (decide (k ∈ il))) := by unfold aH; simp [c]
   obtain ⟨AU, hg2⟩ := List.getElem?_eq_some_iff.1 hg
   have LF : k < ((aH il m).map DV.bool).length := AU
   by_cases hin : k ∈ il
   ·rw [decide_eq_true hin] at hg hg2
    have hs : C X kU [(5, R), (7, S), (9, .int .i64 k)] h = some (.norm, [(5, R), (7, S), (9, .int .i64 K)], h) := by
     clear ih
     generalize (aH il m).map DV.bool = sl at *
     unfold kU
     refine aT (jP @c @z1 @hS @hsl @hg @hg2) ?_
     simp [Za, lk]
    rw [Zx, hs, ZZ]
    rcases ih K (by omega) (by omega) with ⟨h1, h2⟩ | ⟨h1, h2⟩
    ·refine .inl ⟨fun q h3 h4 => ?_, h2⟩
     by_cases e : q = k
     ·rw [e]; exact hin
     ·exact h1 q (by omega) h4
    ·exact .inr ⟨fun h3 => h1 fun q h4 h5 => h3 q (by omega) h5, h2⟩
   ·rw [decide_eq_false hin] at hg hg2
    right
    refine ⟨fun h3 => hin (h3 k (Nat.le_refl _) c), ?_⟩
    have hs : C X kU [(5, R), (7, S), (9, .int .i64 k)] h = some (.ret, [(2, .nils), (3, .bool false)], h) := by
     clear ih
     generalize (aH il m).map DV.bool = sl at *
     unfold kU
     refine aT (jP @c @z1 @hS @hsl @hg @hg2) ?_
     simp [Za, lk]
    rw [Zx, hs, cQ]
  ·exact ih k (by omega) hk
def DX (R : DV) (n : Int) (ys : List V) (bs : List Nat) : Prop := (R = .nils ∧ bF bs (wC ys.length) n.toNat = []) ∨ R = .list 1 ((bF bs (wC ys.length) n.toNat).map iD) false
open Classical in
set_option maxHeartbeats 2000000 in
theorem uC {H : Zb} {n : Int} {D B : DV} {ys : List V} {bs : List Nat} (hD : df D ys) (cH : ys.length ≤ 200) (gL : ∀ x ∈ ys, Sm x) (hB : aC B bs) (bb : BB bs) (hbb : bs.length ≤ 10000) :
 ∃ R, E X 7 [aI n D B] H = some (.tup [R, .bool (decide (dU n ys bs))], H) ∧ ((dU n ys bs ∧ DX R n ys bs) ∨ (¬ dU n ys bs ∧ R = .nils)) := by
 have aU := hD.vw
 have rM := fun g => KG (h := g) (A := D) (hD.vw g) (by omega) gL
 have bad : ¬ dU n ys bs → E X 7 [aI n D B] H = some (.tup [.nils, .bool false], H) → ∃ R, E X 7 [aI n D B] H = some (.tup [R, .bool (decide (dU n ys bs))], H) ∧ ((dU n ys bs ∧ DX R n ys bs) ∨ (¬ dU n ys bs ∧ R = .nils)) := by
  intro h1 h2
  rw [decide_eq_false h1]
  exact ⟨.nils, h2, .inr ⟨h1, rfl⟩⟩
 by_cases c1 : n < 0
 ·refine bad (fun h => by have := h.1; omega) ?_
  generalize bJ none ys = r at *
  rw [ZO (X := X) _ b7 _ rfl rfl]; unfold b7; exact rg (ew @c1 @rM @aU)
 by_cases c2 : 4096 < n
 ·refine bad (fun h => by have := h.2.1; omega) ?_
  generalize bJ none ys = r at *
  rw [ZO (X := X) _ b7 _ rfl rfl]; unfold b7; exact rg (d8 @c1 @c2 @rM @aU)
 obtain ⟨m, rfl⟩ : ∃ m : Nat, n = (m : Int) := ⟨n.toNat, by omega⟩
 have d1 : ¬ 4096 < m := by omega
 cases c3 : bJ none ys
 ·refine bad (fun h => by have := h.2.2.1; rw [c3] at this; cases this) ?_
  rw [c3] at rM
  rw [ZO (X := X) _ b7 _ rfl rfl]; unfold b7; exact rg (mh @c1 @c2 @d1 @rM @aU)
 rw [c3] at rM
 have pJ : wC ys.length ≤ 61 := by
  have h1 := ij (ys.length - 1) 255 (by omega)
  have h2 : wN 255 = 8 := by decide
  unfold wC; omega
 have EX := fun g => KE ys.length (by omega) g
 obtain ⟨R, e, EY, hR⟩ := KF (H := H ++ [.box 25 [.int .i64 m, D, B]]) hB.vw bb hbb pJ (n := m) (by omega)
 rcases hR with ⟨c4, rfl, hR⟩ | ⟨c4, he⟩
 case inr =>
  refine bad (fun h => c4 h.2.2.2.1) ?_
  have he' : ¬ e = 0 := by simpa using he
  generalize wC ys.length = w at *
  clear bad c4 hB bb
  rw [ZO (X := X) _ b7 _ rfl rfl]; unfold b7; exact rg (jC @c1 @c2 @d1 @rM @EY @EX @he @he' @aU)
 obtain ⟨il, hil⟩ : ∃ il, il = bF bs (wC ys.length) m := ⟨_, rfl⟩
 rw [← hil] at hR
 have hn : il.length = m := by rw [hil]; exact dV _ _ _
 have jw : ∀ g, vw g 1 R = some (il.map iD) := fun g => by rcases hR with ⟨rfl, rfl⟩ | rfl <;> rfl
 have hs0 : sh H m D B (aH (il.take 0) ys.length) = H ++ [.box 25 [.int .i64 m, D, B], .row 4 1 0 (List.replicate ys.length (.bool false))] := by
  have : (aH (il.take 0) ys.length).map DV.bool = List.replicate ys.length (.bool false) := by
   unfold aH
   apply List.ext_getElem <;> simp
  unfold sh
  rw [this]
 have hW : Wc 1 (.bool false) := by simp [Wc, DV.cells, DV.one]
 have m0 : (0 : Int) ≤ (ys.length : Int) := by omega
 have m1 : (ys.length : Int) ≤ 140737488355328 := by omega
 have Ai : (ys.length : Int) * 1 ≤ 140737488355328 := by omega
 rcases KV (H := H) (n := m) (D := D) (B := B) (R := R) aU jw (by omega) (by omega) il.length 0 (by omega) (by omega) with ⟨c5, ex, hc⟩ | ⟨c5, h', hc, ht⟩
 case inr =>
  refine bad (fun h => c5 (by rw [List.drop_zero, hil]; exact h.2.2.2.2.1)) ?_
  rw [hs0, show ((0 : Nat) : Int) = 0 from rfl] at hc
  have aB := rG ht
  generalize wC ys.length = w at *
  clear bad c4 c5 hB bb hil hs0
  rw [ZO (X := X) _ b7 _ rfl rfl]; unfold b7
  refine rn (eJ @c1 @c2 @d1 @rM @EY @EX @aU @hW @m0 @m1 @Ai) ?_
  refine aD ?_
  rw [hc]
  refine rn trivial ?_
  simp only [Zw, Yc, lk, Za, List.map_cons, List.map_nil, reduceIte, Option.map_some, Nat.reduceEqDiff, aB]
 rw [List.drop_zero] at c5
 rw [hs0, show ((0 : Nat) : Int) = 0 from rfl] at hc
 have f2 : (sh H m D B (aH il ys.length))[H.length + 1]? = some (.row 4 1 0 ((aH il ys.length).map DV.bool)) := by simp [sh, ae]
 have hS := wV f2 (eO _ _)
 have htk : (sh H m D B (aH il ys.length)).take H.length = H := by simp [sh]
 rcases G8 (R := R) hS (by omega) ys.length 0 (by omega) (by omega) with ⟨c6, OW, hc2⟩ | ⟨c6, hc2⟩
 ·have hok : dU m ys bs := ⟨by omega, by omega, c3, c4, by rw [Int.toNat_natCast, ← hil]; exact c5, by rw [Int.toNat_natCast, ← hil]; exact fun k hk => c6 k (by omega) hk⟩
  refine ⟨R, ?_, .inl ⟨hok, by unfold DX; rw [Int.toNat_natCast, ← hil]; exact hR⟩⟩
  rw [decide_eq_true hok]
  have aB : fin H (sh H m D B (aH il ys.length)) [R, .bool true] = (.tup [R, .bool true], H) := by
   simp only [fin]
   rw [if_pos htk]
   rcases hR with ⟨rfl, _⟩ | rfl <;> rfl
  rw [show ((0 : Nat) : Int) = 0 from rfl] at hc2
  generalize sh H m D B (aH il ys.length) = P at *
  generalize wC ys.length = w at *
  clear bad c4 c5 hB bb hil hs0 hok c6
  rw [ZO (X := X) _ b7 _ rfl rfl]; unfold b7
  refine rn (eJ @c1 @c2 @d1 @rM @EY @EX @aU @hW @m0 @m1 @Ai) ?_
  refine aD ?_
  rw [hc]
  refine rn trivial ?_
  refine aD ?_
  rw [hc2]
  refine rn trivial ?_
  simp only [Zw, Yc, lk, Za, List.map_cons, List.map_nil, reduceIte, Option.map_some, Nat.reduceEqDiff, aB]
 ·refine bad (fun h => c6 (fun k _ hk => by rw [hil]; exact h.2.2.2.2.2 k hk)) ?_
  have aB := rG htk
  rw [show ((0 : Nat) : Int) = 0 from rfl] at hc2
  generalize sh H m D B (aH il ys.length) = P at *
  generalize wC ys.length = w at *
  clear bad c4 c5 hB bb hil hs0 c6
  rw [ZO (X := X) _ b7 _ rfl rfl]; unfold b7
  refine rn (eJ @c1 @c2 @d1 @rM @EY @EX @aU @hW @m0 @m1 @Ai) ?_
  refine aD ?_
  rw [hc]
  refine rn trivial ?_
  refine aD ?_
  rw [hc2]
  refine rn trivial ?_
  simp only [Zw, Yc, lk, Za, List.map_cons, List.map_nil, reduceIte, Option.map_some, Nat.reduceEqDiff, aB]
def dH (ys : List V) (il : List Nat) : List V := il.map fun p => ys.getD p v0
def wB (d : DV) (vs : List V) : Prop := (d = .nils ∧ vs = []) ∨ d = .fresh 34 4 (vs.map V.d)
theorem Fw (vs : List V) : ∀ x ∈ vs.map V.d, Nr x := fun x hx => by
 obtain ⟨v, _, rfl⟩ := List.mem_map.1 hx
 exact v.nr
theorem cE.valD {H h : Zb} {d : DV} {vs : List V} (hg : cE 34 4 H h d (vs.map V.d)) : ∃ R, Go.Proofs.YteekbciaggmfgaaDoor.fin H h [d] = (R, H) ∧ wB R vs := by
 rcases hg.fin (Fw vs) with ⟨rfl, h1⟩ | ⟨_, h1⟩
 ·refine ⟨_, h1, .inl ⟨rfl, ?_⟩⟩
  rcases hg.2 with ⟨_, h2⟩ | ⟨g, o, h2, _⟩
  ·simpa using h2
  ·cases h2
 ·exact ⟨_, h1, .inr rfl⟩
theorem KU {Hb : Zb} {n : Int} {D B R : DV} {ys : List V} {il : List Nat} {b : Nat} (hb : Hb[b]? = some (.box 25 [.int .i64 n, D, B])) (hD : ∀ g, vw g 4 D = some (ys.map V.d)) (hR : ∀ g, vw g 1 R = some (il.map iD)) (hl : il.length ≤ 4096) (hlt : ∀ p ∈ il, p < ys.length) :
 ∀ (m i : Nat) (h : Zb) (o : DV), il.length - i ≤ m → i ≤ il.length → cE 34 4 Hb h o ((dH ys (il.take i)).map V.d) → ∃ ex h' o', C X (.loop qS) [(1, .ref b 0), (3, R), (5, o), (6, .int .i64 i)] h = some (.exit 0, (1, .ref b 0) :: (3, R) :: (5, o') :: ex, h') ∧ cE 34 4 Hb h' o' ((dH ys il).map V.d) := by
 intro m
 induction m with
 | zero =>
  intro i h o hm hi hg
  obtain rfl : i = il.length := by omega
  refine ⟨[(6, .int .i64 il.length), (15, .bool false)], h, o, ?_, by rw [List.take_length] at hg; exact hg⟩
  rw [Zx]
  unfold qS
  refine rn @hR ?_
  rw [ZS]
  simp [Za, lk]
 | succ m ih =>
  intro i h o hm hi hg
  by_cases c : i < il.length
  ·obtain ⟨I, hI⟩ : ∃ I, I = i + 1 := ⟨_, rfl⟩
   have z1 : IntKind.i64.wrap ((i : Int) + 1) = (I : Int) := wr
   obtain ⟨p, dF⟩ : ∃ p, p = il[i] := ⟨_, rfl⟩
   have eG := dF.symm
   have hpi : il[i]? = some p := by rw [List.getElem?_eq_getElem c, dF]
   have hpl := hlt p (by rw [dF]; exact List.getElem_mem c)
   obtain ⟨v, hv⟩ : ∃ v, v = ys[p] := ⟨_, rfl⟩
   have hv' := hv.symm
   have ve : ys[p]? = some v := by rw [hv]; exact List.getElem?_eq_getElem hpl
   have hgd : ys.getD p v0 = v := by rw [List.getD_eq_getElem?_getD, ve]; rfl
   have e : (dH ys (il.take I)).map V.d = (dH ys (il.take i)).map V.d ++ [v.d] := by
    unfold dH
    rw [hI, ← List.take_append_getElem c, ← dF]
    simp only [List.map_append, List.map_cons, List.map_nil, hgd]
   have lX : ((dH ys (il.take i)).map V.d).length ≤ 4096 := by unfold dH; simp; omega
   obtain ⟨o2, h2, ha, hg2⟩ := hg.app 40 [v.d] (by simp only [List.length_cons, List.length_nil]; omega)
   rw [← e] at hg2
   have fT := ih I h2 o2 (by omega) (by omega) hg2
   have hb' := jX hg.1 hb
   have hw := hg.vw
   have y1 : ∀ h, cM [v.d] h = some ([v.d], h) := fun _ => rfl
   have y2 : Wc 4 v.d := by simp [Wc, DV.cells, V.d, DV.one]
   have y3 : Nr v.d := v.nr
   have y4 : ∀ h, aJ h 4 (.list 4 [v.d] true) = some [v.d] := fun _ => rfl
   have hs : C X qS [(1, .ref b 0), (3, R), (5, o), (6, .int .i64 i)] h = some (.norm, [(1, .ref b 0), (3, R), (5, o2), (6, .int .i64 I)], h2) := by
    clear ih fT hg hg2 e lX hb hgd
    generalize (dH ys (il.take i)).map V.d = cur at *
    obtain ⟨vk, vn, vs', vt⟩ := v
    simp only [V.d] at *
    unfold qS
    refine aT (vM @c @z1 @hR @hD @eG @hpi @hpl @ve @hv' @hb' @y1 @y2 @y3 @y4 @hw @ha) ?_
    simp [Za, lk]
   rw [Zx, hs, ZZ]
   exact fT
  ·exact ih i h o (by omega) hi hg
theorem HG {Hb : Zb} {n : Int} {D B R : DV} {ys : List V} {il : List Nat} {b : Nat} (hb : Hb[b]? = some (.box 25 [.int .i64 n, D, B])) (hD : ∀ g, vw g 4 D = some (ys.map V.d)) (hR : ∀ g, vw g 1 R = some (il.map iD)) (hl : il.length ≤ 4096) (hlt : ∀ p ∈ il, p < ys.length) :
 ∀ (m i : Nat) (h : Zb) (o : DV), il.length - i ≤ m → i ≤ il.length → cE 34 4 Hb h o ((dH ys (il.take i)).map V.d) → ∃ ex h' o', C X (.loop ow) [(1, .ref b 0), (5, o), (15, R), (16, .int .i64 il.length), (17, .int .i64 i)] h = some (.exit 0, (1, .ref b 0) :: (5, o') :: ex, h') ∧ cE 34 4 Hb h' o' ((dH ys il).map V.d) := by
 intro m
 induction m with
 | zero =>
  intro i h o hm hi hg
  obtain rfl : i = il.length := by omega
  refine ⟨[(15, R), (16, .int .i64 il.length), (17, .int .i64 il.length), (18, .bool false)], h, o, ?_, by rw [List.take_length] at hg; exact hg⟩
  rw [Zx]
  unfold ow
  refine rn trivial ?_
  rw [ZS]
  simp [Za, lk]
 | succ m ih =>
  intro i h o hm hi hg
  by_cases c : i < il.length
  ·obtain ⟨I, hI⟩ : ∃ I, I = i + 1 := ⟨_, rfl⟩
   have z1 : IntKind.i64.wrap ((i : Int) + 1) = (I : Int) := wr
   obtain ⟨p, dF⟩ : ∃ p, p = il[i] := ⟨_, rfl⟩
   have eG := dF.symm
   have hpi : il[i]? = some p := by rw [List.getElem?_eq_getElem c, dF]
   have hpl := hlt p (by rw [dF]; exact List.getElem_mem c)
   obtain ⟨v, hv⟩ : ∃ v, v = ys[p] := ⟨_, rfl⟩
   have hv' := hv.symm
   have ve : ys[p]? = some v := by rw [hv]; exact List.getElem?_eq_getElem hpl
   have hgd : ys.getD p v0 = v := by rw [List.getD_eq_getElem?_getD, ve]; rfl
   have e : (dH ys (il.take I)).map V.d = (dH ys (il.take i)).map V.d ++ [v.d] := by
    unfold dH
    rw [hI, ← List.take_append_getElem c, ← dF]
    simp only [List.map_append, List.map_cons, List.map_nil, hgd]
   have lX : ((dH ys (il.take i)).map V.d).length ≤ 4096 := by unfold dH; simp; omega
   obtain ⟨o2, h2, ha, hg2⟩ := hg.app 40 [v.d] (by simp only [List.length_cons, List.length_nil]; omega)
   rw [← e] at hg2
   have fT := ih I h2 o2 (by omega) (by omega) hg2
   have hb' := jX hg.1 hb
   have hw := hg.vw
   have y1 : ∀ h, cM [v.d] h = some ([v.d], h) := fun _ => rfl
   have y2 : Wc 4 v.d := by simp [Wc, DV.cells, V.d, DV.one]
   have y3 : Nr v.d := v.nr
   have y4 : ∀ h, aJ h 4 (.list 4 [v.d] true) = some [v.d] := fun _ => rfl
   have hs : C X ow [(1, .ref b 0), (5, o), (15, R), (16, .int .i64 il.length), (17, .int .i64 i)] h = some (.norm, [(1, .ref b 0), (5, o2), (15, R), (16, .int .i64 il.length), (17, .int .i64 I)], h2) := by
    clear ih fT hg hg2 e lX hb hgd
    generalize (dH ys (il.take i)).map V.d = cur at *
    obtain ⟨vk, vn, vs', vt⟩ := v
    simp only [V.d] at *
    unfold ow
    refine aT (vM @c @z1 @hR @hD @eG @hpi @hpl @ve @hv' @hb' @y1 @y2 @y3 @y4 @hw @ha) ?_
    simp [Za, lk]
   rw [Zx, hs, ZZ]
   exact fT
  ·exact ih i h o (by omega) hi hg
open Classical in
noncomputable def iQ (n : Int) (ys : List V) (bs : List Nat) : List V := if dU n ys bs then dH ys (bF bs (wC ys.length) n.toNat) else []
theorem Mp {H : Zb} {n : Int} {D B : DV} {ys : List V} {bs : List Nat} (hD : df D ys) (cH : ys.length ≤ 200) (gL : ∀ x ∈ ys, Sm x) (hB : aC B bs) (bb : BB bs) (hbb : bs.length ≤ 10000) :
 ∃ d, E X 8 [aI n D B] H = some (d, H) ∧ wB d (iQ n ys bs) := by
 obtain ⟨H1, eu⟩ : ∃ H1, H1 = H ++ [HO.box 25 [.int .i64 n, D, B]] := ⟨_, rfl⟩
 have eR : H1[H.length]? = some (.box 25 [.int .i64 n, D, B]) := by rw [eu]; simp
 have ht1 : H1.take H.length = H := by rw [eu, List.take_append_of_le_length (Nat.le_refl _)]; exact List.take_length
 obtain ⟨R, oN, hR⟩ := uC (H := H1) (n := n) hD cH gL hB bb hbb
 have aU := hD.vw
 have key : ∀ il : List Nat, (∀ g, vw g 1 R = some (il.map iD)) → il.length ≤ 4096 → (∀ p ∈ il, p < ys.length) → ∃ d, E X 8 [aI n D B] H = some (d, H) ∧ wB d (dH ys il) := by
  intro il jw hl hlt
  obtain ⟨ex, h2, o2, hc, hg⟩ := KU eR aU jw hl hlt il.length 0 H1 .nils (by omega) (by omega) cE.zero
  rw [show ((0 : Nat) : Int) = 0 from rfl] at hc
  obtain ⟨d, aB, hd⟩ := (hg.base ht1).valD
  refine ⟨d, ?_, hd⟩
  clear hg hd hlt hR ht1
  obtain ⟨ok, oN⟩ : ∃ ok, E X 7 [aI n D B] H1 = some (.tup [R, .bool ok], H1) := ⟨_, oN⟩
  subst eu
  rw [ZO (X := X) _ b8 _ rfl rfl]; unfold b8
  refine rn @oN ?_
  refine aD ?_
  rw [hc]
  refine rn trivial ?_
  simp only [Zw, Yc, lk, Za, List.map_cons, List.map_nil, reduceIte, Option.map_some, Nat.reduceEqDiff, aB]
 rcases hR with ⟨hok, hR⟩ | ⟨hok, hR⟩
 ·have hv : iQ n ys bs = dH ys (bF bs (wC ys.length) n.toNat) := by unfold iQ; rw [if_pos hok]
  rw [hv]
  refine key _ (fun g => ?_) (by rw [dV]; have := hok.2.1; omega) hok.2.2.2.2.1
  rcases hR with ⟨rfl, h0⟩ | rfl
  ·rw [h0]; rfl
  ·rfl
 ·have hv : iQ n ys bs = dH ys [] := by unfold iQ; rw [if_neg hok]; rfl
  rw [hv]
  exact key [] (fun g => by rw [hR]; rfl) (by simp) (by simp)
theorem KM {H : Zb} {n : Int} {D B : DV} {ys : List V} {bs : List Nat} (hD : df D ys) (cH : ys.length ≤ 200) (hB : aC B bs) (bb : BB bs) :
 ∃ d, E X 10 [aI n D B] H = some (d, H) ∧ wB d (iQ n ys bs) := by
 obtain ⟨H1, eu⟩ : ∃ H1, H1 = H ++ [HO.box 25 [.int .i64 n, D, B]] := ⟨_, rfl⟩
 have eR : H1[H.length]? = some (.box 25 [.int .i64 n, D, B]) := by rw [eu]; simp
 have ht1 : H1.take H.length = H := by rw [eu, List.take_append_of_le_length (Nat.le_refl _)]; exact List.take_length
 have aU := hD.vw
 by_cases hok : dU n ys bs
 ·have hv : iQ n ys bs = dH ys (bF bs (wC ys.length) n.toNat) := by unfold iQ; rw [if_pos hok]
  rw [hv]
  obtain ⟨hn, hC⟩ := hok.col hD (by omega) hB bb
  obtain ⟨R, EW, jw⟩ := uF hC H1
  rw [← hn] at EW
  have hlt := hok.2.2.2.2.1
  have hl : (bF bs (wC ys.length) n.toNat).length ≤ 4096 := by rw [dV]; have := hok.2.1; omega
  generalize bF bs (wC ys.length) n.toNat = il at *
  obtain ⟨ex, h2, o2, hc, hg⟩ := HG eR aU jw hl hlt il.length 0 H1 .nils (by omega) (by omega) cE.zero
  rw [show ((0 : Nat) : Int) = 0 from rfl] at hc
  obtain ⟨d, aB, hd⟩ := (hg.base ht1).valD
  refine ⟨d, ?_, hd⟩
  clear hg hd hlt ht1 hC hok hv hn
  subst eu
  rw [ZO (X := X) _ Cf _ rfl rfl]; unfold Cf
  refine rn (cC @EW @jw) ?_
  refine aD ?_
  rw [hc]
  refine rn trivial ?_
  simp only [Zw, Yc, lk, Za, List.map_cons, List.map_nil, reduceIte, Option.map_some, Nat.reduceEqDiff, aB]
 ·have hv : iQ n ys bs = [] := by unfold iQ; rw [if_neg hok]
  rw [hv]
  obtain ⟨R, il, EW, _⟩ := uE (H := H1) (n := n) hD (by omega) hB bb hok
  refine ⟨.nils, ?_, .inl ⟨rfl, rfl⟩⟩
  subst eu
  clear hok hv
  rw [ZO (X := X) _ Cf _ rfl rfl]; unfold Cf; exact rg @EW
end Go.Proofs.YteekbciaggmfgaaDoor
