/- Ideal runs. -/
import Derived.Test.YtmbgfbomgbdjeaaGreatDoorStep
import Derived.Test.YtmbgfbomgbdjeaaGreatDoorColH
import Derived.Test.YtmbgfbomgbdjeaaGreatDoorPlainB
import Derived.Test.YtmbgfbomgbdjeaaGreatDoorNod
namespace Go.Proofs.YtmbgfbomgbdjeaaGreatDoor
attribute [local go_sem] ZK ZF ZE ZG Zs Zi Zp Zl Zn Ze Zf Zm Zt Zu ZH Zr Zj ZD Zz Zy ZW ZA Yo put lk Od.v Za Zg Zo aj Yd Ye Yc au eqk DV.isU DV.cells ae ZP Ya ZO Zq splice ZQ af ZX eqs bh bV bQ aV bS bg aU aZ bR aW bU aY bf aX bW bY bP YA YB
attribute [local go_sem ↓] Zk
set_option linter.unusedVariables false
set_option linter.unusedSimpArgs false
set_option maxRecDepth 10000
theorem LB {T : Nat} {f : Nat → DV} {H h : Zb} {d : DV} {ws : List Nat} (hg : Grow T f H h d ws) (hf : ∀ x, Nr (f x)) : ∃ R, fin H h [d] = (R, H) ∧ ((R = .nils ∧ ws = []) ∨ R = .fresh T 1 (ws.map f)) := by
 obtain ⟨ht, hr⟩ := hg
 rcases hr with ⟨rfl, rfl⟩ | ⟨g, o, rfl, h2, h3⟩
 ·exact ⟨.nils, by simp [fin, ht, aH, aJ], .inl ⟨rfl, rfl⟩⟩
 ·refine ⟨.fresh T 1 (ws.map f), ?_, .inr rfl⟩
  have hN : ∀ x ∈ ws.map f, Nr x := fun x hx => by
   obtain ⟨n, _, rfl⟩ := List.mem_map.1 hx
   exact hf n
  simp only [fin]
  rw [if_pos ht]
  simp only [aH, aJ]
  rw [if_neg (by omega), h3]
  simp only
  rw [if_pos ⟨rfl, by simp, hN⟩]
  simp
theorem Lp {H : Zb} {L : DV} {bs : List Nat} (hL : ∀ g, vw g 1 L = some (bs.map bD)) (bb : BB bs) (hb : bs.length ≤ 10000) :
 ∀ (k i : Nat) (o : DV) (h : Zb), bs.length - i ≤ k → i ≤ bs.length → Grow 3 iD H h o (bF (bs.take i) 8) → ∃ y o' h' ex, C X (.loop pX) [(0, L), (3, o), (4, .int .i64 i)] h = some (.exit 0, (0, L) :: (3, o') :: (4, y) :: ex, h') ∧ Grow 3 iD H h' o' (bF bs 8) := by
 intro k
 induction k with
 | zero =>
  intro i o h hk hi hG
  obtain rfl : i = bs.length := by omega
  rw [List.take_length] at hG
  refine ⟨.int .i64 bs.length, o, h, [(8, .bool false)], ?_, hG⟩
  rw [Zc]
  unfold pX
  refine rn @hL ?_
  rw [Zx]
  simp [Za, lk]
 | succ k ih =>
  intro i o h hk hi hG
  by_cases c : i < bs.length
  ·obtain ⟨I, hI⟩ : ∃ I, I = i + 1 := ⟨_, rfl⟩
   have z1 : IntKind.i64.wrap ((i : Int) + 1) = (I : Int) := wr
   have hat := Gt 8 bs i c
   rw [← hI] at hat
   have hn := bb _ (List.getElem_mem c)
   obtain ⟨n, hnn⟩ : ∃ n, n = bs[i] := ⟨_, rfl⟩
   rw [← hnn] at hat hn
   have HJ := hnn.symm
   have ax : bs[i]? = some n := by rw [List.getElem?_eq_getElem c, hnn]
   have hlen : (bF (bs.take i) 8).length ≤ 10000 * 8 := by
    rw [qO]
    exact Nat.mul_le_mul (by rw [List.length_take]; omega) (Nat.le_refl _)
   have JV := hG.vw0
   have z2 : IntKind.i64.wrap (n : Int) = (n : Int) := wrap64 _ (by omega) (by omega)
   obtain ⟨d, Ir, hD⟩ := Qh (H := h) n 8 (by omega) (by omega)
   have Ir : E X 97 [.int .i64 n, .int .i64 8] h = some (d, h) := Ir
   have h8 := kQ n 8
   rcases hD with ⟨_, hnil⟩ | rfl
   ·rw [hnil] at h8; cases h8
   have gE := hG.ext [.row 3 1 0 ((fH n 8).map iD)]
   obtain ⟨o', h', ha, OG⟩ := gE.app 8 (fH n 8) (by rw [h8]; omega)
   rw [← hat] at OG
   have hw2 := hG.vw [.row 3 1 0 ((fH n 8).map iD)]
   have s1 : aK (h ++ [.row 3 1 0 ((fH n 8).map iD)]) 1 (.row h.length 0 0 (fH n 8).length false) = some ((fH n 8).map iD) := by
    simp [aK, vw, List.take_of_length_le]
   have hs : C X pX [(0, L), (3, o), (4, .int .i64 i)] h = some (.norm, [(0, L), (3, o'), (4, .int .i64 I)], h') := by
    clear ih hG OG hat gE
    generalize bF (bs.take i) 8 = aw at *
    generalize fH n 8 = nw at *
    unfold pX
    refine Yx (cP @c @z1 @z2 @hL @JV @ax @HJ @Ir @hw2 @s1 @ha) ?_
    simp [Za, lk]
   rw [Zc, hs, ZB]
   exact ih I o' h' (by omega) (by omega) OG
  ·exact ih i o h (by omega) hi hG
theorem ME {H : Zb} {L : DV} {bs : List Nat} (hL : ∀ g, vw g 1 L = some (bs.map bD)) (bb : BB bs) (hb : bs.length ≤ 10000) : ∃ d, E X 117 [L] H = some (d, H) ∧ ((d = .nils ∧ bF bs 8 = []) ∨ d = .fresh 3 1 ((bF bs 8).map iD)) := by
 obtain ⟨y, o', h', ex, hc, hG⟩ := Lp (H := H) hL bb hb bs.length 0 .nils H (by omega) (by omega) Grow.zero
 obtain ⟨R, hf, hR⟩ := LB hG (fun x => .int _ _)
 refine ⟨R, ?_, hR⟩
 rw [show ((0 : Nat) : Int) = 0 from rfl] at hc
 clear hG hR
 generalize bF bs 8 = a at *
 rw [Zv (X := X) _ I7 _ rfl rfl]; unfold I7
 refine rn trivial ?_
 refine Yy ?_
 rw [hc]
 refine rn trivial ?_
 simp only [Zh, ZV, lk, Za, List.map_cons, List.map_nil, reduceIte, Option.map_some, hf]
theorem I9 {bs : List Nat} {k : Nat} (hk : k < bs.length * 8) : decide ((bF bs 8).getD k 0 = 1) = fK bs k := by
 rw [uF (by omega) bs k hk]
 exact Ku bs k
theorem Dy {bs : List Nat} {w i : Nat} (h : i * w + w ≤ 8 * bs.length) : eX (((bF bs 8).drop (i * w)).take w) = gN bs w i w := by
 apply Nat.eq_of_testBit_eq
 intro j
 rw [yO _ (fun b hb => B7 b (List.mem_of_mem_drop (List.mem_of_mem_take hb))), qC]
 by_cases c : j < w
 ·have e : (((bF bs 8).drop (i * w)).take w).getD j 0 = (bF bs 8).getD (i * w + j) 0 := by
   rw [List.getD_eq_getElem?_getD, List.getD_eq_getElem?_getD, List.getElem?_take, if_pos c, List.getElem?_drop]
  rw [e, I9 (by omega)]
  simp [c]
 ·have e : (((bF bs 8).drop (i * w)).take w).getD j 0 = 0 := by
   rw [List.getD_eq_getElem?_getD, List.getElem?_take, if_neg c]; rfl
  rw [e]
  simp [c]
theorem yx {x r : Nat} (hx : x < 256) (hr : r ≤ 8) : x / 2 ^ r = 0 ↔ ∀ j, r ≤ j → j < 8 → x / 2 ^ j % 2 = 0 := by
 constructor
 ·intro h j h1 _
  have h2 : x < 2 ^ r := by
   rcases Nat.div_eq_zero_iff.1 h with h3 | h3
   ·have := Nat.two_pow_pos r; omega
   ·exact h3
  rw [Nat.div_eq_of_lt (Nat.lt_of_lt_of_le h2 (Nat.pow_le_pow_right (by omega) h1))]
 ·intro h
  apply Nat.eq_of_testBit_eq
  intro j
  rw [Nat.testBit_div_two_pow, Nat.zero_testBit]
  by_cases c : j + r < 8
  ·have := h (j + r) (by omega) c
   have h2 := Dl x (j + r)
   rw [this] at h2
   simpa using h2.symm
  ·exact Nat.testBit_lt_two_pow (Nat.lt_of_lt_of_le (show x < 2 ^ 8 from hx) (Nat.pow_le_pow_right (by omega) (by omega)))
theorem G3 {bs : List Nat} {w n : Nat} (bb : BB bs) (hl : bs.length = (n * w + 7) / 8) : iw bs w n ↔ ∀ k, n * w ≤ k → k < 8 * bs.length → (bF bs 8).getD k 0 = 0 := by
 unfold iw
 generalize n * w = P at *
 have ae : ∀ k, k < 8 * bs.length → (bF bs 8).getD k 0 = bs.getD (k / 8) 0 / 2 ^ (k % 8) % 2 := fun k hk => uF (by omega) bs k (by omega)
 constructor
 ·rintro ⟨_, h⟩ k h1 h2
  rw [ae k h2]
  have hr : 0 < P % 8 := by omega
  have hq : k / 8 = bs.length - 1 := by omega
  rw [hq]
  exact (yx (bb.getD _) (by omega)).1 (h hr) (k % 8) (by omega) (by omega)
 ·intro h
  refine ⟨hl, fun hr => (yx (bb.getD _) (by omega)).2 fun j h1 h2 => ?_⟩
  have := h (8 * (bs.length - 1) + j) (by omega) (by omega)
  rw [ae _ (by omega), show (8 * (bs.length - 1) + j) / 8 = bs.length - 1 by omega, show (8 * (bs.length - 1) + j) % 8 = j by omega] at this
  exact this
theorem EP (bs : List Nat) (w i : Nat) : bL bs w (i + 1) = bL bs w i ++ [gN bs w i w] := by simp [bL, List.range_succ]
theorem M6 {H Ha : Zb} {A : DV} {bs : List Nat} {n w : Nat} (hA : Grow 3 iD H Ha A (bF bs 8)) (hw : w ≤ 61) (hn : n ≤ 4096) (hl : n * w ≤ 8 * bs.length) (hb : bs.length ≤ 10000) :
 ∀ (k i : Nat) (o : DV) (h : Zb), n - i ≤ k → i ≤ n → Grow 3 iD Ha h o (bL bs w i) → ∃ y o' h' ex, C X (.loop pL) [(1, .int .i64 n), (2, .int .i64 w), (8, A), (9, o), (10, .int .i64 i)] h = some (.exit 0, (1, .int .i64 n) :: (2, .int .i64 w) :: (8, A) :: (9, o') :: (10, y) :: ex, h') ∧ Grow 3 iD Ha h' o' (bL bs w n) := by
 intro k
 induction k with
 | zero =>
  intro i o h hk hi hG
  obtain rfl : i = n := by omega
  refine ⟨.int .i64 i, o, h, [(43, .bool false)], ?_, hG⟩
  rw [Zc]
  unfold pL
  refine rn trivial ?_
  rw [Zx]
  simp [Za, lk]
 | succ k ih =>
  intro i o h hk hi hG
  by_cases c : i < n
  ·obtain ⟨I, hI⟩ : ∃ I, I = i + 1 := ⟨_, rfl⟩
   have z1 : IntKind.i64.wrap ((i : Int) + 1) = (I : Int) := wr
   have Vz : I * w ≤ n * w := Nat.mul_le_mul_right w (by omega)
   have Si : I * w = i * w + w := by rw [hI, Nat.succ_mul]
   have pq := Dy (bs := bs) (w := w) (i := i) (by omega)
   obtain ⟨q, hq⟩ : ∃ q, q = i * w := ⟨_, rfl⟩
   obtain ⟨q2, hq2⟩ : ∃ q2, q2 = I * w := ⟨_, rfl⟩
   have z2 : IntKind.i64.wrap ((i : Int) * (w : Int)) = (q : Int) := by
    rw [← Int.natCast_mul, ← hq, wrap64 _ (by omega) (by omega)]
   have z3 : IntKind.i64.wrap ((I : Int) * (w : Int)) = (q2 : Int) := by
    rw [← Int.natCast_mul, ← hq2, wrap64 _ (by omega) (by omega)]
   rw [← hq] at pq Si
   rw [← hq2] at Si Vz
   have hal := qO 8 bs
   have hK := hA.keep hG.1
   have hv := hK.vw0
   have hle : ∀ b ∈ ((bF bs 8).drop q).take w, b ≤ 1 := fun b hb => B7 b (List.mem_of_mem_drop (List.mem_of_mem_take hb))
   have hsc := EP bs w i
   rw [← hI] at hsc
   obtain ⟨o2, h2, ha, gE⟩ := hG.app 8 [gN bs w i w] (by rw [gQ]; simp; omega)
   rw [← hsc] at gE
   have cK := ih I o2 h2 (by omega) (by omega) gE
   have JV := hG.vw0
   have y1 : ∀ (a : Int) h, bw [.int .i64 a] h = some ([.int .i64 a], h) := fun _ _ => rfl
   have y2 : ∀ a, Wc 1 (.int .i64 a) := fun a => by simp [Wc, DV.cells, DV.one]
   have y3 : ∀ a, Nr (.int .i64 a) := fun a => .int _ _
   have y4 : ∀ (a : Int) h, aK h 1 (.list 1 [.int .i64 a] true) = some [.int .i64 a] := fun _ _ => rfl
   have hs : C X pL [(1, .int .i64 n), (2, .int .i64 w), (8, A), (9, o), (10, .int .i64 i)] h = some (.norm, [(1, .int .i64 n), (2, .int .i64 w), (8, A), (9, o2), (10, .int .i64 I)], h2) := by
    rcases hK.2 with ⟨rfl, hnil⟩ | ⟨g, r, rfl, _, h3⟩
    ·rw [hnil] at hal pq
     simp only [List.length_nil] at hal
     obtain rfl : q = 0 := by omega
     obtain rfl : q2 = 0 := by omega
     have e := Ju (h := h) (L := .nils) (l := []) rfl (by simp) (by simp)
     rw [List.drop_nil, List.take_nil] at pq
     rw [pq] at e
     clear ih cK hA hK hG gE hsc hle pq
     generalize gN bs w i w = v at *
     generalize bL bs w i = cur at *
     have ha : bE h 3 1 8 o (cur.map iD) [.int .i64 v] = some (o2, h2) := ha
     unfold pL
     refine RA (dR @c @z1 @z2 @z3 @hv @JV @e @ha @y1 @y2 @y3 @y4) ?_
     simp [Za, lk]
    ·have c1 : q ≤ q2 := by omega
     have c2 : q2 ≤ (bF bs 8).length := by omega
     have c4 : q2 - q = w := by omega
     have l7 : vw h 1 (.row r g q w false) = some ((((bF bs 8).drop q).take w).map iD) := by
      have : q + w ≤ (bF bs 8).length := by omega
      simp [vw, h3, this, List.map_drop, List.map_take]
     have e := Ju l7 hle (by rw [List.length_take]; omega)
     rw [pq] at e
     clear ih cK hA hK hG gE hsc hle pq l7
     generalize gN bs w i w = v at *
     generalize bL bs w i = cur at *
     generalize bF bs 8 = a at *
     have ha : bE h 3 1 8 o (cur.map iD) [.int .i64 v] = some (o2, h2) := ha
     unfold pL
     refine RA (mE @c @z1 @z2 @z3 @hv @JV @c1 @c2 @c4 @e @ha @y1 @y2 @y3 @y4) ?_
     simp [Za, lk]
   rw [Zc, hs, ZB]
   exact cK
  ·exact ih i o h (by omega) hi hG
theorem K0 {h : Zb} {A O : DV} {a : List Nat} (hA : vw h 1 A = some (a.map iD)) (hb : a.length ≤ 1000000) :
 ∀ (m k : Nat), a.length - k ≤ m → k ≤ a.length → (∃ ex, C X (.loop lK) [(8, A), (9, O), (11, .int .i64 k)] h = some (.exit 2, (8, A) :: (9, O) :: ex, h) ∧ ∀ j, k ≤ j → j < a.length → a.getD j 0 = 0) ∨ (C X (.loop lK) [(8, A), (9, O), (11, .int .i64 k)] h = some (.ret, [(6, .nils), (7, .int .i64 7)], h) ∧ ¬ ∀ j, k ≤ j → j < a.length → a.getD j 0 = 0) := by
 intro m
 induction m with
 | zero =>
  intro k hm hk
  obtain rfl : k = a.length := by omega
  refine .inl ⟨[(11, .int .i64 a.length), (65, .bool false)], ?_, fun j h1 h2 => by omega⟩
  rw [Zc]
  unfold lK
  refine rn @hA ?_
  rw [Zx]
  simp [Za, lk]
 | succ m ih =>
  intro k hm hk
  by_cases c : k < a.length
  ·obtain ⟨K, hK⟩ : ∃ K, K = k + 1 := ⟨_, rfl⟩
   have z1 : IntKind.i64.wrap ((k : Int) + 1) = (K : Int) := wr
   obtain ⟨x, hx⟩ : ∃ x, x = a[k] := ⟨_, rfl⟩
   have jm : a[k]? = some x := by rw [hx]; exact List.getElem?_eq_getElem c
   have hx' := hx.symm
   have hgd : a.getD k 0 = x := by rw [List.getD_eq_getElem?_getD, jm]; rfl
   by_cases h0 : x = 0
   ·have q0 : ((x : Int) != 0) = false := by simp [h0]
    have hs : C X lK [(8, A), (9, O), (11, .int .i64 k)] h = some (.norm, [(8, A), (9, O), (11, .int .i64 K)], h) := by
     clear ih
     unfold lK
     refine Yx (fR @c @z1 @hA @jm @hx' @h0 @q0) ?_
     simp [Za, lk]
    rw [Zc, hs, ZB]
    rcases ih K (by omega) (by omega) with ⟨ex, h1, h2⟩ | ⟨h1, h2⟩
    ·refine .inl ⟨ex, h1, fun j h3 h4 => ?_⟩
     by_cases e : j = k
     ·rw [e, hgd, h0]
     ·exact h2 j (by omega) h4
    ·exact .inr ⟨h1, fun h3 => h2 fun j h4 h5 => h3 j (by omega) h5⟩
   ·right
    have q0 : ((x : Int) != 0) = true := by simpa using h0
    have hs : C X lK [(8, A), (9, O), (11, .int .i64 k)] h = some (.ret, [(6, .nils), (7, .int .i64 7)], h) := by
     clear ih
     unfold lK
     refine Yx (fR @c @z1 @hA @jm @hx' @h0 @q0) ?_
     simp [Za, lk]
    rw [Zc, hs, Yw]
    exact ⟨rfl, fun h3 => h0 (by rw [← hgd]; exact h3 k (Nat.le_refl _) c)⟩
  ·exact ih k (by omega) hk
set_option maxHeartbeats 2000000 in
theorem Qs {H : Zb} {L : DV} {bs : List Nat} {w n : Nat} (hL : ∀ g, vw g 1 L = some (bs.map bD)) (bb : BB bs) (hb : bs.length ≤ 10000) (hw : w ≤ 61) (hn : n ≤ 4096) :
 ∃ R e, E X 76 [L, .int .i64 n, .int .i64 w] H = some (.tup [R, .int .i64 e], H) ∧ ((iw bs w n ∧ e = 0 ∧ ((R = .nils ∧ bL bs w n = []) ∨ R = .list 1 ((bL bs w n).map iD) false)) ∨ (¬ iw bs w n ∧ (e != 0) = true)) := by
 have hmul : n * w ≤ 4096 * 61 := Nat.mul_le_mul hn hw
 obtain ⟨P, hP⟩ : ∃ P, P = n * w := ⟨_, rfl⟩
 have z1 : IntKind.i64.wrap ((n : Int) * (w : Int)) = (P : Int) := by
  rw [← Int.natCast_mul, ← hP, wrap64 _ (by omega) (by omega)]
 obtain ⟨B8, Wt⟩ : ∃ B8, B8 = 8 * bs.length := ⟨_, rfl⟩
 have z2 : IntKind.i64.wrap (8 * (bs.length : Int)) = (B8 : Int) := by
  rw [wrap64 _ (by omega) (by omega)]; omega
 obtain ⟨P7, Ws⟩ : ∃ P7, P7 = P + 7 := ⟨_, rfl⟩
 have z3 : IntKind.i64.wrap ((P : Int) + 7) = (P7 : Int) := wr
 obtain ⟨m, hm⟩ : ∃ m, m = P7 / 8 := ⟨_, rfl⟩
 have z4 : IntKind.i64.wrap ((P7 : Int) / 8) = (m : Int) := wr
 have yM : ((P7 : Int)).tdiv 8 = (m : Int) := by rw [Int.tdiv_eq_ediv_of_nonneg (by omega)]; omega
 have yL : IntKind.i64.wrap (m : Int) = (m : Int) := wrap64 _ (by omega) (by omega)
 have d1 : ¬ (4096 : Int) < (n : Int) := by omega
 have d2 : ¬ 4096 < n := by omega
 have d3 : ¬ (n : Int) < 0 := by omega
 have d4 : ¬ (62 : Int) < (w : Int) := by omega
 have d5 : ¬ 62 < w := by omega
 have d6 : ¬ (w : Int) < 0 := by omega
 by_cases c1 : B8 < P
 ·refine ⟨.nils, 6, ?_, .inr ⟨?_, rfl⟩⟩
  ·have bM : (B8 : Int) < (P : Int) := by omega
   rw [Zv (X := X) _ qs _ rfl rfl]; unfold qs; exact rg (cP @hL @z1 @z2 @d1 @d2 @d3 @d4 @d5 @d6 @c1 @bM)
  ·unfold iw
   rw [← hP]
   rintro ⟨h, _⟩; omega
 have bM : ¬ (B8 : Int) < (P : Int) := by omega
 by_cases c2 : m < bs.length
 ·refine ⟨.nils, 7, ?_, .inr ⟨?_, rfl⟩⟩
  ·have dA : (m : Int) < (bs.length : Int) := by omega
   rw [Zv (X := X) _ qs _ rfl rfl]; unfold qs; exact rg (qJ @hL @z1 @z2 @z3 @z4 @yM @yL @d1 @d2 @d3 @d4 @d5 @d6 @c1 @bM @c2 @dA)
  ·unfold iw
   rw [← hP]
   rintro ⟨h, _⟩; omega
 have dA : ¬ (m : Int) < (bs.length : Int) := by omega
 have hlen : bs.length = (n * w + 7) / 8 := by rw [← hP]; omega
 obtain ⟨d, Kk, hd⟩ := ME (H := H) hL bb hb
 have hal := qO 8 bs
 have C8 : ∀ {Ha h2 : Zb} {o : DV}, Ha.take H.length = H → Grow 3 iD Ha h2 o (bL bs w n) → ∃ R, fin H h2 [o, .int .i64 0] = (.tup [R, .int .i64 0], H) ∧ ((R = .nils ∧ bL bs w n = []) ∨ R = .list 1 ((bL bs w n).map iD) false) := by
  intro Ha h2 o ht hG
  have hle := jS ht
  refine BP (T := 3) (f := iD) ⟨?_, ?_⟩ (fun x => .int _ _) 0
  ·have h5 : h2.take H.length = (h2.take Ha.length).take H.length := by rw [List.take_take, Nat.min_eq_left hle]
   rw [h5, hG.1, ht]
  ·rcases hG.2 with h | ⟨g, oo, h1, h2, h3⟩
   ·exact .inl h
   ·exact .inr ⟨g, oo, h1, by omega, h3⟩
 have sH : ∀ {h2 : Zb}, h2.take H.length = H → fin H h2 [.nils, .int .i64 7] = (.tup [.nils, .int .i64 7], H) := by
  intro h2 ht
  simp only [fin]
  rw [if_pos ht]
  rfl
 have main : ∀ (A : DV) (Ha : Zb), Grow 3 iD H Ha A (bF bs 8) → (d = .nils ∧ A = .nils ∧ Ha = H ∨ d = .fresh 3 1 ((bF bs 8).map iD) ∧ A = .row H.length 0 0 (bF bs 8).length false ∧ Ha = H ++ [.row 3 1 0 ((bF bs 8).map iD)]) → ∃ R e, E X 76 [L, .int .i64 n, .int .i64 w] H = some (.tup [R, .int .i64 e], H) ∧ ((iw bs w n ∧ e = 0 ∧ ((R = .nils ∧ bL bs w n = []) ∨ R = .list 1 ((bL bs w n).map iD) false)) ∨ (¬ iw bs w n ∧ (e != 0) = true)) := by
  intro A Ha hA hsh
  obtain ⟨y, o2, h2, ex, hc, hG⟩ := M6 hA hw hn (by omega) hb n 0 .nils Ha (by omega) (by omega) Grow.zero
  rw [show ((0 : Nat) : Int) = 0 from rfl] at hc
  have zN := (hA.keep hG.1).vw0
  have Oy : P ≤ (bF bs 8).length := by omega
  have ou : h2.take H.length = H := by
   have hle := jS hA.1
   have h5 : h2.take H.length = (h2.take Ha.length).take H.length := by rw [List.take_take, Nat.min_eq_left hle]
   rw [h5, hG.1, hA.1]
  have hpt := G3 (w := w) (n := n) bb hlen
  rw [← hP] at hpt
  rcases K0 (O := o2) zN (by omega) ((bF bs 8).length - P) P (by omega) Oy with ⟨O2, hc2, hz⟩ | ⟨hc2, hz⟩
  ·obtain ⟨R, aA, hR⟩ := C8 hA.1 hG
   refine ⟨R, 0, ?_, .inl ⟨hpt.2 (fun k h1 h2 => hz k h1 (by omega)), rfl, hR⟩⟩
   clear hG hA hpt hz C8 sH hR hd Oy hal
   generalize bF bs 8 = a at *
   rcases hsh with ⟨rfl, rfl, rfl⟩ | ⟨rfl, rfl, rfl⟩
   ·rw [Zv (X := X) _ qs _ rfl rfl]; unfold qs
    refine rn (Ah @hL @Kk @z1 @z2 @z3 @z4 @yM @yL @d1 @d2 @d3 @d4 @d5 @d6 @c1 @bM @c2 @dA) ?_
    refine Yy ?_
    rw [hc]
    refine rn @z1 ?_
    refine Yy ?_
    rw [hc2]
    refine rn trivial ?_
    simp only [Zh, ZV, lk, Za, List.map_cons, List.map_nil, reduceIte, Option.map_some, Nat.reduceEqDiff, aA]
   ·have E5 : (a.map iD).length = a.length := by simp
    rw [Zv (X := X) _ qs _ rfl rfl]; unfold qs
    refine rn (qI @hL @Kk @z1 @z2 @z3 @z4 @yM @yL @d1 @d2 @d3 @d4 @d5 @d6 @c1 @bM @c2 @dA @E5) ?_
    refine Yy ?_
    rw [hc]
    refine rn @z1 ?_
    refine Yy ?_
    rw [hc2]
    refine rn trivial ?_
    simp only [Zh, ZV, lk, Za, List.map_cons, List.map_nil, reduceIte, Option.map_some, Nat.reduceEqDiff, aA]
  ·have aA := sH ou
   refine ⟨.nils, 7, ?_, .inr ⟨fun h => hz fun j h1 h2 => hpt.1 h j h1 (by omega), rfl⟩⟩
   clear hG hA hpt hz C8 sH hd Oy hal
   generalize bF bs 8 = a at *
   rcases hsh with ⟨rfl, rfl, rfl⟩ | ⟨rfl, rfl, rfl⟩
   ·rw [Zv (X := X) _ qs _ rfl rfl]; unfold qs
    refine rn (Ah @hL @Kk @z1 @z2 @z3 @z4 @yM @yL @d1 @d2 @d3 @d4 @d5 @d6 @c1 @bM @c2 @dA) ?_
    refine Yy ?_
    rw [hc]
    refine rn @z1 ?_
    refine Yy ?_
    rw [hc2]
    refine rn trivial ?_
    simp only [Zh, ZV, lk, Za, List.map_cons, List.map_nil, reduceIte, Option.map_some, Nat.reduceEqDiff, aA]
   ·have E5 : (a.map iD).length = a.length := by simp
    rw [Zv (X := X) _ qs _ rfl rfl]; unfold qs
    refine rn (qI @hL @Kk @z1 @z2 @z3 @z4 @yM @yL @d1 @d2 @d3 @d4 @d5 @d6 @c1 @bM @c2 @dA @E5) ?_
    refine Yy ?_
    rw [hc]
    refine rn @z1 ?_
    refine Yy ?_
    rw [hc2]
    refine rn trivial ?_
    simp only [Zh, ZV, lk, Za, List.map_cons, List.map_nil, reduceIte, Option.map_some, Nat.reduceEqDiff, aA]
 rcases hd with ⟨rfl, hnil⟩ | rfl
 ·exact main .nils H (by rw [hnil]; exact Grow.zero) (.inl ⟨rfl, rfl, rfl⟩)
 ·exact main (.row H.length 0 0 (bF bs 8).length false) (H ++ [.row 3 1 0 ((bF bs 8).map iD)]) ⟨by simp, .inr ⟨0, H.length, rfl, Nat.le_refl _, by simp⟩⟩ (.inr ⟨rfl, rfl, rfl⟩)
end Go.Proofs.YtmbgfbomgbdjeaaGreatDoor
namespace Go.Proofs.YtmbgfbomgbdjeaaGreatDoor
set_option linter.unusedVariables false
set_option linter.unusedSimpArgs false
set_option maxRecDepth 10000
def aN (T sz : Nat) (H h : Zb) (d : DV) (xs : List DV) : Prop :=
 h.take H.length = H ∧ ((d = .nils ∧ xs = []) ∨ ∃ g o, d = .row o g 0 xs.length false ∧ H.length ≤ o ∧ h[o]? = some (.row T sz g xs))
theorem eI {H h : Zb} (ht : h.take H.length = H) : H.length ≤ h.length := by
 have := congrArg List.length ht
 rw [List.length_take] at this; omega
section
variable {T sz : Nat} {H h : Zb} {d : DV} {xs : List DV}
theorem aN.zero : aN T sz H H .nils [] := ⟨List.take_length, .inl ⟨rfl, rfl⟩⟩
theorem aN.ext (hg : aN T sz H h d xs) (G : Zb) : aN T sz H (h ++ G) d xs := by
 obtain ⟨ht, hr⟩ := hg
 refine ⟨?_, ?_⟩
 ·rw [List.take_append_of_le_length (eI ht)]; exact ht
 ·rcases hr with hr | ⟨g, o, h1, h2, h3⟩
  ·exact .inl hr
  ·exact .inr ⟨g, o, h1, h2, by rw [List.getElem?_append_left (List.getElem?_eq_some_iff.1 h3).1]; exact h3⟩
theorem aN.vw (hg : aN T sz H h d xs) : vw h sz d = some xs := by
 rcases hg.2 with ⟨rfl, rfl⟩ | ⟨g, o, rfl, h2, h3⟩
 ·rfl
 ·simp [Go.Proofs.YtmbgfbomgbdjeaaGreatDoor.vw, h3, List.take_of_length_le]
theorem aN.app (hg : aN T sz H h d xs) (b : Nat) (ys : List DV) (hb : (xs.length + ys.length) * b ≤ 140737488355328) : ∃ d' h', bE h T sz b d xs ys = some (d', h') ∧ aN T sz H h' d' (xs ++ ys) := by
 by_cases hy : ys = []
 ·subst hy
  exact ⟨d, h, by simp [bE], by rw [List.append_nil]; exact hg⟩
 ·obtain ⟨ht, hr⟩ := hg
  rcases hr with ⟨rfl, rfl⟩ | ⟨g, o, rfl, h2, h3⟩
  ·refine ⟨.row h.length 0 0 ys.length false, h ++ [.row T sz 0 ys], ?_, ?_, .inr ⟨0, h.length, by simp, eI ht, by simp⟩⟩
   ·simp only [bE, if_neg hy]
    rw [if_pos hb]
   ·rw [List.take_append_of_le_length (eI ht)]; exact ht
  ·have hlt := (List.getElem?_eq_some_iff.1 h3).1
   refine ⟨.row o (g + 1) 0 (xs.length + ys.length) false, h.set o (.row T sz (g + 1) (xs ++ ys)), ?_, ?_, .inr ⟨g + 1, o, by simp, h2, ?_⟩⟩
   ·simp only [bE, if_neg hy, h3]
    rw [if_pos hb]
    simp
   ·rw [List.take_set_of_le h2]; exact ht
   ·rw [List.getElem?_set_self hlt]
theorem aN.fin (hg : aN T sz H h d xs) (hn : ∀ x ∈ xs, Nr x) : (d = .nils ∧ fin H h [d] = (.nils, H)) ∨ (d ≠ .nils ∧ fin H h [d] = (.fresh T sz xs, H)) := by
 obtain ⟨ht, hr⟩ := hg
 rcases hr with ⟨rfl, rfl⟩ | ⟨g, o, rfl, h2, h3⟩
 ·exact .inl ⟨rfl, by simp [Go.Proofs.YtmbgfbomgbdjeaaGreatDoor.fin, ht, aH, aJ]⟩
 ·refine .inr ⟨by simp, ?_⟩
  simp only [Go.Proofs.YtmbgfbomgbdjeaaGreatDoor.fin]
  rw [if_pos ht]
  simp only [aH, aJ]
  rw [if_neg (by omega), h3]
  simp only
  rw [if_pos ⟨rfl, by simp, hn⟩]
  simp
end
theorem fe {H h : Zb} (ht : h.take H.length = H) {o : Nat} {x : HO} (hx : H[o]? = some x) : h[o]? = some x := by
 have hlt := (List.getElem?_eq_some_iff.1 hx).1
 have : (h.take H.length)[o]? = some x := by rw [ht]; exact hx
 rw [List.getElem?_take, if_pos hlt] at this
 exact this
theorem Eh {H h : Zb} (ht : h.take H.length = H) {sz : Nat} {d : DV} {xs : List DV} (hv : vw H sz d = some xs) : vw h sz d = some xs := by
 have := List.take_append_drop H.length h
 rw [ht] at this
 rw [← this]
 exact ic hv
theorem aN.base {T sz : Nat} {H H1 h : Zb} {d : DV} {xs : List DV} (hg : aN T sz H1 h d xs) (hH : H1.take H.length = H) : aN T sz H h d xs := by
 have hl := eI hH
 refine ⟨?_, ?_⟩
 ·have h5 : h.take H.length = (h.take H1.length).take H.length := by rw [List.take_take, Nat.min_eq_left hl]
  rw [h5, hg.1, hH]
 ·rcases hg.2 with h1 | ⟨g, o, h1, h2, h3⟩
  ·exact .inl h1
  ·exact .inr ⟨g, o, h1, by omega, h3⟩
end Go.Proofs.YtmbgfbomgbdjeaaGreatDoor
namespace Go.Proofs.YtmbgfbomgbdjeaaGreatDoor
attribute [local go_sem] ZK ZF ZE ZG Zs Zi Zp Zl Zn Ze Zf Zm Zt Zu ZH Zr Zj ZD Zz Zy ZW ZA Yo put lk Od.v Za Zg Zo aj Yd Ye Yc au eqk DV.isU DV.cells ae ZP Ya ZO Zq splice ZQ af ZX eqs bh bV bQ aV bS bg aU aZ bR aW bU aY bf aX bW bY bP YA YB
attribute [local go_sem ↓] Zk
set_option linter.unusedVariables false
set_option linter.unusedSimpArgs false
set_option maxRecDepth 10000
theorem Bj {h : Zb} {r g t n : Nat} {bl : List Bool} (h1 : h[r]? = some (.row t 1 g (bl.map DV.bool))) (hn : bl.length = n) : vw h 1 (.row r g 0 n false) = some (bl.map DV.bool) := by
 subst hn; simp [vw, h1, List.take_of_length_le]
theorem KQ {h : Zb} {r g t n : Nat} {bl : List Bool} (h1 : h[r]? = some (.row t 1 g (bl.map DV.bool))) (hn : bl.length = n) {i : Nat} (hi : i < n) (b : Bool) : stx h 1 (.elem (.row r g 0 n false) 1 i 0) (.bool b) = some (h.set r (.row t 1 g ((bl.set i b).map DV.bool))) := by
 subst hn
 have h2 : (bl.map DV.bool)[i]? = some (.bool bl[i]) := by simp [List.getElem?_eq_getElem hi]
 rw [stx, if_pos (by simp [DV.cells, DV.one])]
 simp only [h1]
 rw [if_pos (by simp [hi])]
 simp only [Nat.zero_add, h2]
 simp [pz, DV.one]
def aI (l : List Nat) (m : Nat) : List Bool := (List.range m).map fun k => decide (k ∈ l)
theorem gw (l : List Nat) (m : Nat) : (aI l m).length = m := by simp [aI]
theorem DR (l : List Nat) (m p : Nat) : (aI l m).set p true = aI (l ++ [p]) m := by
 apply List.ext_getElem?
 intro k
 by_cases c : k < m
 ·have h1 : (aI (l ++ [p]) m)[k]? = some (decide (k ∈ l ++ [p])) := by unfold aI; simp [c]
  rw [h1]
  by_cases e : p = k
  ·subst e
   rw [List.getElem?_set_self (by rw [gw]; exact c)]
   simp
  ·rw [List.getElem?_set_ne e]
   unfold aI
   have e' : ¬ k = p := fun h => e h.symm
   simp [c, e']
 ·rw [List.getElem?_eq_none (by rw [List.length_set, gw]; omega), List.getElem?_eq_none (by rw [gw]; omega)]
def sh (H : Zb) (n : Int) (D B : DV) (bl : List Bool) : Zb := H ++ [.box 70 [.int .i64 n, D, B], .row 4 1 0 (bl.map DV.bool)]
theorem Nh {H : Zb} {n : Int} {D B R : DV} {ys : List V} {il : List Nat} (hD : ∀ g, vw g 4 D = some (ys.map V.d)) (hR : ∀ g, vw g 1 R = some (il.map iD)) (hb : il.length ≤ 4096) (oh : ys.length ≤ 1000) :
 ∀ (k i : Nat), il.length - i ≤ k → i ≤ il.length → ((∀ p ∈ il.drop i, p < ys.length) ∧ ∃ ex, C X (.loop lR) [(1, .ref H.length 0), (5, R), (7, .row (H.length + 1) 0 0 ys.length false), (8, .int .i64 i)] (sh H n D B (aI (il.take i) ys.length)) = some (.exit 0, (1, .ref H.length 0) :: (5, R) :: (7, .row (H.length + 1) 0 0 ys.length false) :: ex, sh H n D B (aI il ys.length))) ∨ (¬ (∀ p ∈ il.drop i, p < ys.length) ∧ ∃ h', C X (.loop lR) [(1, .ref H.length 0), (5, R), (7, .row (H.length + 1) 0 0 ys.length false), (8, .int .i64 i)] (sh H n D B (aI (il.take i) ys.length)) = some (.ret, [(2, .nils), (3, .bool false)], h') ∧ h'.take H.length = H) := by
 intro k
 induction k with
 | zero =>
  intro i hk hi
  obtain rfl : i = il.length := by omega
  rw [List.take_length, List.drop_length]
  refine .inl ⟨by simp, [(8, .int .i64 il.length), (46, .bool false)], ?_⟩
  generalize sh H n D B (aI il ys.length) = P
  rw [Zc]
  unfold lR
  refine rn @hR ?_
  rw [Zx]
  simp [Za, lk]
 | succ k ih =>
  intro i hk hi
  by_cases c : i < il.length
  ·obtain ⟨I, hI⟩ : ∃ I, I = i + 1 := ⟨_, rfl⟩
   have z1 : IntKind.i64.wrap ((i : Int) + 1) = (I : Int) := wr
   obtain ⟨p, gU⟩ : ∃ p, p = il[i] := ⟨_, rfl⟩
   have ow := gU.symm
   have hpi : il[i]? = some p := by rw [List.getElem?_eq_getElem c, gU]
   have fP : il.drop i = p :: il.drop I := by rw [List.drop_eq_getElem_cons c, ← gU, hI]
   have htk : il.take I = il.take i ++ [p] := by rw [hI, ← List.take_append_getElem c, ← gU]
   have f1 : (sh H n D B (aI (il.take i) ys.length))[H.length]? = some (.box 70 [.int .i64 n, D, B]) := by simp [sh]
   have f2 : (sh H n D B (aI (il.take i) ys.length))[H.length + 1]? = some (.row 4 1 0 ((aI (il.take i) ys.length).map DV.bool)) := by simp [sh, ae]
   by_cases hlt : p < ys.length
   ·have d1 : ¬ (ys.length : Int) ≤ (p : Int) := by omega
    have d2 : ¬ ys.length ≤ p := by omega
    have r1 := Bj f2 (gw _ _)
    have r2 := KQ f2 (gw _ _) hlt true
    have Ya : (sh H n D B (aI (il.take i) ys.length)).set (H.length + 1) (.row 4 1 0 (((aI (il.take i) ys.length).set p true).map DV.bool)) = sh H n D B (aI (il.take I) ys.length) := by
     rw [DR, ← htk]
     simp [sh, Ya]
    rw [Ya] at r2
    have hsl : ((aI (il.take i) ys.length).map DV.bool).length = ys.length := by rw [List.length_map, gw]
    have hs : C X lR [(1, .ref H.length 0), (5, R), (7, .row (H.length + 1) 0 0 ys.length false), (8, .int .i64 i)] (sh H n D B (aI (il.take i) ys.length)) = some (.norm, [(1, .ref H.length 0), (5, R), (7, .row (H.length + 1) 0 0 ys.length false), (8, .int .i64 I)], sh H n D B (aI (il.take I) ys.length)) := by
     clear ih Ya
     generalize (aI (il.take i) ys.length).map DV.bool = sl at *
     generalize sh H n D B (aI (il.take I) ys.length) = P2 at *
     generalize sh H n D B (aI (il.take i) ys.length) = P1 at *
     unfold lR
     refine Yx (ja @c @z1 @hR @hD @ow @hpi @f1 @r1 @r2 @d1 @d2 @hlt @hsl) ?_
     simp [Za, lk]
    rw [Zc, hs, ZB, fP]
    rcases ih I (by omega) (by omega) with ⟨h1, h2⟩ | ⟨h1, h2⟩
    ·refine .inl ⟨fun q hq => ?_, h2⟩
     rcases List.mem_cons.1 hq with rfl | hq
     ·exact hlt
     ·exact h1 q hq
    ·exact .inr ⟨fun h => h1 fun q hq => h q (List.mem_cons_of_mem _ hq), h2⟩
   ·right
    have d1 : (ys.length : Int) ≤ (p : Int) := by omega
    have d2 : ys.length ≤ p := by omega
    refine ⟨fun h => hlt (h p (by rw [fP]; exact List.mem_cons_self ..)), sh H n D B (aI (il.take i) ys.length), ?_, by simp [sh]⟩
    have hs : C X lR [(1, .ref H.length 0), (5, R), (7, .row (H.length + 1) 0 0 ys.length false), (8, .int .i64 i)] (sh H n D B (aI (il.take i) ys.length)) = some (.ret, [(2, .nils), (3, .bool false)], sh H n D B (aI (il.take i) ys.length)) := by
     clear ih
     generalize sh H n D B (aI (il.take i) ys.length) = P1 at *
     unfold lR
     refine Yx (gJ @c @z1 @hR @hD @ow @hpi @f1 @d1 @d2) ?_
     simp [Za, lk]
    rw [Zc, hs, Yw]
  ·exact ih i (by omega) hi
theorem K1 {h : Zb} {S R : DV} {il : List Nat} {m : Nat} (hS : vw h 1 S = some ((aI il m).map DV.bool)) (hm : m ≤ 1000) :
 ∀ (j k : Nat), m - k ≤ j → k ≤ m → ((∀ q, k ≤ q → q < m → q ∈ il) ∧ ∃ ex, C X (.loop lQ) [(5, R), (7, S), (9, .int .i64 k)] h = some (.exit 2, (5, R) :: (7, S) :: ex, h)) ∨ (¬ (∀ q, k ≤ q → q < m → q ∈ il) ∧ C X (.loop lQ) [(5, R), (7, S), (9, .int .i64 k)] h = some (.ret, [(2, .nils), (3, .bool false)], h)) := by
 have hsl : ((aI il m).map DV.bool).length = m := by rw [List.length_map, gw]
 intro j
 induction j with
 | zero =>
  intro k hj hk
  obtain rfl : k = m := by omega
  refine .inl ⟨fun q h1 h2 => by omega, [(9, .int .i64 k), (66, .bool false)], ?_⟩
  generalize (aI il k).map DV.bool = sl at *
  rw [Zc]
  unfold lQ
  refine rn (aD @hS @hsl) ?_
  rw [Zx]
  simp [Za, lk]
 | succ j ih =>
  intro k hj hk
  by_cases c : k < m
  ·obtain ⟨K, hK⟩ : ∃ K, K = k + 1 := ⟨_, rfl⟩
   have z1 : IntKind.i64.wrap ((k : Int) + 1) = (K : Int) := wr
   have hg : ((aI il m).map DV.bool)[k]? = some (.bool (decide (k ∈ il))) := by unfold aI; simp [c]
   obtain ⟨qd, hg2⟩ := List.getElem?_eq_some_iff.1 hg
   have Wp : k < ((aI il m).map DV.bool).length := qd
   by_cases hin : k ∈ il
   ·rw [decide_eq_true hin] at hg hg2
    have hs : C X lQ [(5, R), (7, S), (9, .int .i64 k)] h = some (.norm, [(5, R), (7, S), (9, .int .i64 K)], h) := by
     clear ih
     generalize (aI il m).map DV.bool = sl at *
     unfold lQ
     refine Yx (eO @c @z1 @hS @hsl @hg @hg2) ?_
     simp [Za, lk]
    rw [Zc, hs, ZB]
    rcases ih K (by omega) (by omega) with ⟨h1, h2⟩ | ⟨h1, h2⟩
    ·refine .inl ⟨fun q h3 h4 => ?_, h2⟩
     by_cases e : q = k
     ·rw [e]; exact hin
     ·exact h1 q (by omega) h4
    ·exact .inr ⟨fun h3 => h1 fun q h4 h5 => h3 q (by omega) h5, h2⟩
   ·rw [decide_eq_false hin] at hg hg2
    right
    refine ⟨fun h3 => hin (h3 k (Nat.le_refl _) c), ?_⟩
    have hs : C X lQ [(5, R), (7, S), (9, .int .i64 k)] h = some (.ret, [(2, .nils), (3, .bool false)], h) := by
     clear ih
     generalize (aI il m).map DV.bool = sl at *
     unfold lQ
     refine Yx (eO @c @z1 @hS @hsl @hg @hg2) ?_
     simp [Za, lk]
    rw [Zc, hs, Yw]
  ·exact ih k (by omega) hk
def Ji (R : DV) (n : Int) (ys : List V) (bs : List Nat) : Prop := (R = .nils ∧ bL bs (wC ys.length) n.toNat = []) ∨ R = .list 1 ((bL bs (wC ys.length) n.toNat).map iD) false
open Classical in
set_option maxHeartbeats 2000000 in
theorem JE {H : Zb} {n : Int} {D B : DV} {ys : List V} {bs : List Nat} (hD : e8 D ys) (oh : ys.length ≤ 200) (tY : ∀ x ∈ ys, Sm x) (hB : bK B bs) (bb : BB bs) (hbb : bs.length ≤ 10000) :
 ∃ R, E X 49 [e7 n D B] H = some (.tup [R, .bool (decide (okC n ys bs))], H) ∧ ((okC n ys bs ∧ Ji R n ys bs) ∨ (¬ okC n ys bs ∧ R = .nils)) := by
 have fB := hD.vw
 have vN := fun g => Qt (h := g) (A := D) (hD.vw g) (by omega) tY
 have bad : ¬ okC n ys bs → E X 49 [e7 n D B] H = some (.tup [.nils, .bool false], H) → ∃ R, E X 49 [e7 n D B] H = some (.tup [R, .bool (decide (okC n ys bs))], H) ∧ ((okC n ys bs ∧ Ji R n ys bs) ∨ (¬ okC n ys bs ∧ R = .nils)) := by
  intro h1 h2
  rw [decide_eq_false h1]
  exact ⟨.nils, h2, .inr ⟨h1, rfl⟩⟩
 by_cases c1 : n < 0
 ·refine bad (fun h => by have := h.1; omega) ?_
  generalize bG none ys = r at *
  rw [Zv (X := X) _ oJ _ rfl rfl]; unfold oJ; exact rg (cg @c1 @vN @fB)
 by_cases c2 : 4096 < n
 ·refine bad (fun h => by have := h.2.1; omega) ?_
  generalize bG none ys = r at *
  rw [Zv (X := X) _ oJ _ rfl rfl]; unfold oJ; exact rg (df @c1 @c2 @vN @fB)
 obtain ⟨m, rfl⟩ : ∃ m : Nat, n = (m : Int) := ⟨n.toNat, by omega⟩
 have d1 : ¬ 4096 < m := by omega
 cases c3 : bG none ys
 ·refine bad (fun h => by have := h.2.2.1; rw [c3] at this; cases this) ?_
  rw [c3] at vN
  rw [Zv (X := X) _ oJ _ rfl rfl]; unfold oJ; exact rg (eP @c1 @c2 @d1 @vN @fB)
 rw [c3] at vN
 have tV : wC ys.length ≤ 61 := by
  have h1 := gZ (ys.length - 1) 255 (by omega)
  have h2 : wN 255 = 8 := by decide
  unfold wC; omega
 have vM := fun g => Qy ys.length (by omega) g
 obtain ⟨R, e, Kn, hR⟩ := Qs (H := H ++ [.box 70 [.int .i64 m, D, B]]) hB.vw bb hbb tV (n := m) (by omega)
 rcases hR with ⟨c4, rfl, hR⟩ | ⟨c4, he⟩
 case inr =>
  refine bad (fun h => c4 h.2.2.2.1) ?_
  have he' : ¬ e = 0 := by simpa using he
  generalize wC ys.length = w at *
  clear bad c4 hB bb
  rw [Zv (X := X) _ oJ _ rfl rfl]; unfold oJ; exact rg (gJ @c1 @c2 @d1 @vN @Kn @vM @he @he' @fB)
 obtain ⟨il, hil⟩ : ∃ il, il = bL bs (wC ys.length) m := ⟨_, rfl⟩
 rw [← hil] at hR
 have hn : il.length = m := by rw [hil]; exact gQ _ _ _
 have ku : ∀ g, vw g 1 R = some (il.map iD) := fun g => by rcases hR with ⟨rfl, rfl⟩ | rfl <;> rfl
 have hs0 : sh H m D B (aI (il.take 0) ys.length) = H ++ [.box 70 [.int .i64 m, D, B], .row 4 1 0 (List.replicate ys.length (.bool false))] := by
  have : (aI (il.take 0) ys.length).map DV.bool = List.replicate ys.length (.bool false) := by
   unfold aI
   apply List.ext_getElem <;> simp
  unfold sh
  rw [this]
 have hW : Wc 1 (.bool false) := by simp [Wc, DV.cells, DV.one]
 have m0 : (0 : Int) ≤ (ys.length : Int) := by omega
 have m1 : (ys.length : Int) ≤ 140737488355328 := by omega
 have MV : (ys.length : Int) * 1 ≤ 140737488355328 := by omega
 rcases Nh (H := H) (n := m) (D := D) (B := B) (R := R) fB ku (by omega) (by omega) il.length 0 (by omega) (by omega) with ⟨c5, ex, hc⟩ | ⟨c5, h', hc, ht⟩
 case inr =>
  refine bad (fun h => c5 (by rw [List.drop_zero, hil]; exact h.2.2.2.2.1)) ?_
  rw [hs0, show ((0 : Nat) : Int) = 0 from rfl] at hc
  have aA := vG ht
  generalize wC ys.length = w at *
  clear bad c4 c5 hB bb hil hs0
  rw [Zv (X := X) _ oJ _ rfl rfl]; unfold oJ
  refine rn (cP @c1 @c2 @d1 @vN @Kn @vM @fB @hW @m0 @m1 @MV) ?_
  refine Yy ?_
  rw [hc]
  refine rn trivial ?_
  simp only [Zh, ZV, lk, Za, List.map_cons, List.map_nil, reduceIte, Option.map_some, Nat.reduceEqDiff, aA]
 rw [List.drop_zero] at c5
 rw [hs0, show ((0 : Nat) : Int) = 0 from rfl] at hc
 have f2 : (sh H m D B (aI il ys.length))[H.length + 1]? = some (.row 4 1 0 ((aI il ys.length).map DV.bool)) := by simp [sh, ae]
 have hS := Bj f2 (gw _ _)
 have htk : (sh H m D B (aI il ys.length)).take H.length = H := by simp [sh]
 rcases K1 (R := R) hS (by omega) ys.length 0 (by omega) (by omega) with ⟨c6, O2, hc2⟩ | ⟨c6, hc2⟩
 ·have hok : okC m ys bs := ⟨by omega, by omega, c3, c4, by rw [Int.toNat_natCast, ← hil]; exact c5, by rw [Int.toNat_natCast, ← hil]; exact fun k hk => c6 k (by omega) hk⟩
  refine ⟨R, ?_, .inl ⟨hok, by unfold Ji; rw [Int.toNat_natCast, ← hil]; exact hR⟩⟩
  rw [decide_eq_true hok]
  have aA : fin H (sh H m D B (aI il ys.length)) [R, .bool true] = (.tup [R, .bool true], H) := by
   simp only [fin]
   rw [if_pos htk]
   rcases hR with ⟨rfl, _⟩ | rfl <;> rfl
  rw [show ((0 : Nat) : Int) = 0 from rfl] at hc2
  generalize sh H m D B (aI il ys.length) = P at *
  generalize wC ys.length = w at *
  clear bad c4 c5 hB bb hil hs0 hok c6
  rw [Zv (X := X) _ oJ _ rfl rfl]; unfold oJ
  refine rn (cP @c1 @c2 @d1 @vN @Kn @vM @fB @hW @m0 @m1 @MV) ?_
  refine Yy ?_
  rw [hc]
  refine rn trivial ?_
  refine Yy ?_
  rw [hc2]
  refine rn trivial ?_
  simp only [Zh, ZV, lk, Za, List.map_cons, List.map_nil, reduceIte, Option.map_some, Nat.reduceEqDiff, aA]
 ·refine bad (fun h => c6 (fun k _ hk => by rw [hil]; exact h.2.2.2.2.2 k hk)) ?_
  have aA := vG htk
  rw [show ((0 : Nat) : Int) = 0 from rfl] at hc2
  generalize sh H m D B (aI il ys.length) = P at *
  generalize wC ys.length = w at *
  clear bad c4 c5 hB bb hil hs0 c6
  rw [Zv (X := X) _ oJ _ rfl rfl]; unfold oJ
  refine rn (cP @c1 @c2 @d1 @vN @Kn @vM @fB @hW @m0 @m1 @MV) ?_
  refine Yy ?_
  rw [hc]
  refine rn trivial ?_
  refine Yy ?_
  rw [hc2]
  refine rn trivial ?_
  simp only [Zh, ZV, lk, Za, List.map_cons, List.map_nil, reduceIte, Option.map_some, Nat.reduceEqDiff, aA]
def dZ (ys : List V) (il : List Nat) : List V := il.map fun p => ys.getD p v0
def sV (d : DV) (vs : List V) : Prop := (d = .nils ∧ vs = []) ∨ d = .fresh 56 4 (vs.map V.d)
theorem jX (vs : List V) : ∀ x ∈ vs.map V.d, Nr x := fun x hx => by
 obtain ⟨v, _, rfl⟩ := List.mem_map.1 hx
 exact v.nr
theorem aN.valD {H h : Zb} {d : DV} {vs : List V} (hg : aN 56 4 H h d (vs.map V.d)) : ∃ R, Go.Proofs.YtmbgfbomgbdjeaaGreatDoor.fin H h [d] = (R, H) ∧ sV R vs := by
 rcases hg.fin (jX vs) with ⟨rfl, h1⟩ | ⟨_, h1⟩
 ·refine ⟨_, h1, .inl ⟨rfl, ?_⟩⟩
  rcases hg.2 with ⟨_, h2⟩ | ⟨g, o, h2, _⟩
  ·simpa using h2
  ·cases h2
 ·exact ⟨_, h1, .inr rfl⟩
theorem Nj {Hb : Zb} {n : Int} {D B R : DV} {ys : List V} {il : List Nat} {b : Nat} (hb : Hb[b]? = some (.box 70 [.int .i64 n, D, B])) (hD : ∀ g, vw g 4 D = some (ys.map V.d)) (hR : ∀ g, vw g 1 R = some (il.map iD)) (hl : il.length ≤ 4096) (hlt : ∀ p ∈ il, p < ys.length) :
 ∀ (m i : Nat) (h : Zb) (o : DV), il.length - i ≤ m → i ≤ il.length → aN 56 4 Hb h o ((dZ ys (il.take i)).map V.d) → ∃ ex h' o', C X (.loop rV) [(1, .ref b 0), (3, R), (5, o), (6, .int .i64 i)] h = some (.exit 0, (1, .ref b 0) :: (3, R) :: (5, o') :: ex, h') ∧ aN 56 4 Hb h' o' ((dZ ys il).map V.d) := by
 intro m
 induction m with
 | zero =>
  intro i h o hm hi hg
  obtain rfl : i = il.length := by omega
  refine ⟨[(6, .int .i64 il.length), (15, .bool false)], h, o, ?_, by rw [List.take_length] at hg; exact hg⟩
  rw [Zc]
  unfold rV
  refine rn @hR ?_
  rw [Zx]
  simp [Za, lk]
 | succ m ih =>
  intro i h o hm hi hg
  by_cases c : i < il.length
  ·obtain ⟨I, hI⟩ : ∃ I, I = i + 1 := ⟨_, rfl⟩
   have z1 : IntKind.i64.wrap ((i : Int) + 1) = (I : Int) := wr
   obtain ⟨p, gU⟩ : ∃ p, p = il[i] := ⟨_, rfl⟩
   have ow := gU.symm
   have hpi : il[i]? = some p := by rw [List.getElem?_eq_getElem c, gU]
   have hpl := hlt p (by rw [gU]; exact List.getElem_mem c)
   obtain ⟨v, hv⟩ : ∃ v, v = ys[p] := ⟨_, rfl⟩
   have hv' := hv.symm
   have ET : ys[p]? = some v := by rw [hv]; exact List.getElem?_eq_getElem hpl
   have hgd : ys.getD p v0 = v := by rw [List.getD_eq_getElem?_getD, ET]; rfl
   have e : (dZ ys (il.take I)).map V.d = (dZ ys (il.take i)).map V.d ++ [v.d] := by
    unfold dZ
    rw [hI, ← List.take_append_getElem c, ← gU]
    simp only [List.map_append, List.map_cons, List.map_nil, hgd]
   have ax : ((dZ ys (il.take i)).map V.d).length ≤ 4096 := by unfold dZ; simp; omega
   obtain ⟨o2, h2, ha, hg2⟩ := hg.app 40 [v.d] (by simp only [List.length_cons, List.length_nil]; omega)
   rw [← e] at hg2
   have cK := ih I h2 o2 (by omega) (by omega) hg2
   have hb' := fe hg.1 hb
   have hw := hg.vw
   have y1 : ∀ h, bw [v.d] h = some ([v.d], h) := fun _ => rfl
   have y2 : Wc 4 v.d := by simp [Wc, DV.cells, V.d, DV.one]
   have y3 : Nr v.d := v.nr
   have y4 : ∀ h, aK h 4 (.list 4 [v.d] true) = some [v.d] := fun _ => rfl
   have hs : C X rV [(1, .ref b 0), (3, R), (5, o), (6, .int .i64 i)] h = some (.norm, [(1, .ref b 0), (3, R), (5, o2), (6, .int .i64 I)], h2) := by
    clear ih cK hg hg2 e ax hb hgd
    generalize (dZ ys (il.take i)).map V.d = cur at *
    obtain ⟨vk, vn, vs', vt⟩ := v
    simp only [V.d] at *
    unfold rV
    refine Yx (Ai @c @z1 @hR @hD @ow @hpi @hpl @ET @hv' @hb' @y1 @y2 @y3 @y4 @hw @ha) ?_
    simp [Za, lk]
   rw [Zc, hs, ZB]
   exact cK
  ·exact ih i h o (by omega) hi hg
theorem M8 {Hb : Zb} {n : Int} {D B R : DV} {ys : List V} {il : List Nat} {b : Nat} (hb : Hb[b]? = some (.box 70 [.int .i64 n, D, B])) (hD : ∀ g, vw g 4 D = some (ys.map V.d)) (hR : ∀ g, vw g 1 R = some (il.map iD)) (hl : il.length ≤ 4096) (hlt : ∀ p ∈ il, p < ys.length) :
 ∀ (m i : Nat) (h : Zb) (o : DV), il.length - i ≤ m → i ≤ il.length → aN 56 4 Hb h o ((dZ ys (il.take i)).map V.d) → ∃ ex h' o', C X (.loop rR) [(1, .ref b 0), (5, o), (15, R), (16, .int .i64 il.length), (17, .int .i64 i)] h = some (.exit 0, (1, .ref b 0) :: (5, o') :: ex, h') ∧ aN 56 4 Hb h' o' ((dZ ys il).map V.d) := by
 intro m
 induction m with
 | zero =>
  intro i h o hm hi hg
  obtain rfl : i = il.length := by omega
  refine ⟨[(15, R), (16, .int .i64 il.length), (17, .int .i64 il.length), (18, .bool false)], h, o, ?_, by rw [List.take_length] at hg; exact hg⟩
  rw [Zc]
  unfold rR
  refine rn trivial ?_
  rw [Zx]
  simp [Za, lk]
 | succ m ih =>
  intro i h o hm hi hg
  by_cases c : i < il.length
  ·obtain ⟨I, hI⟩ : ∃ I, I = i + 1 := ⟨_, rfl⟩
   have z1 : IntKind.i64.wrap ((i : Int) + 1) = (I : Int) := wr
   obtain ⟨p, gU⟩ : ∃ p, p = il[i] := ⟨_, rfl⟩
   have ow := gU.symm
   have hpi : il[i]? = some p := by rw [List.getElem?_eq_getElem c, gU]
   have hpl := hlt p (by rw [gU]; exact List.getElem_mem c)
   obtain ⟨v, hv⟩ : ∃ v, v = ys[p] := ⟨_, rfl⟩
   have hv' := hv.symm
   have ET : ys[p]? = some v := by rw [hv]; exact List.getElem?_eq_getElem hpl
   have hgd : ys.getD p v0 = v := by rw [List.getD_eq_getElem?_getD, ET]; rfl
   have e : (dZ ys (il.take I)).map V.d = (dZ ys (il.take i)).map V.d ++ [v.d] := by
    unfold dZ
    rw [hI, ← List.take_append_getElem c, ← gU]
    simp only [List.map_append, List.map_cons, List.map_nil, hgd]
   have ax : ((dZ ys (il.take i)).map V.d).length ≤ 4096 := by unfold dZ; simp; omega
   obtain ⟨o2, h2, ha, hg2⟩ := hg.app 40 [v.d] (by simp only [List.length_cons, List.length_nil]; omega)
   rw [← e] at hg2
   have cK := ih I h2 o2 (by omega) (by omega) hg2
   have hb' := fe hg.1 hb
   have hw := hg.vw
   have y1 : ∀ h, bw [v.d] h = some ([v.d], h) := fun _ => rfl
   have y2 : Wc 4 v.d := by simp [Wc, DV.cells, V.d, DV.one]
   have y3 : Nr v.d := v.nr
   have y4 : ∀ h, aK h 4 (.list 4 [v.d] true) = some [v.d] := fun _ => rfl
   have hs : C X rR [(1, .ref b 0), (5, o), (15, R), (16, .int .i64 il.length), (17, .int .i64 i)] h = some (.norm, [(1, .ref b 0), (5, o2), (15, R), (16, .int .i64 il.length), (17, .int .i64 I)], h2) := by
    clear ih cK hg hg2 e ax hb hgd
    generalize (dZ ys (il.take i)).map V.d = cur at *
    obtain ⟨vk, vn, vs', vt⟩ := v
    simp only [V.d] at *
    unfold rR
    refine Yx (Ai @c @z1 @hR @hD @ow @hpi @hpl @ET @hv' @hb' @y1 @y2 @y3 @y4 @hw @ha) ?_
    simp [Za, lk]
   rw [Zc, hs, ZB]
   exact cK
  ·exact ih i h o (by omega) hi hg
open Classical in
noncomputable def fM (n : Int) (ys : List V) (bs : List Nat) : List V := if okC n ys bs then dZ ys (bL bs (wC ys.length) n.toNat) else []
theorem QG {H : Zb} {n : Int} {D B : DV} {ys : List V} {bs : List Nat} (hD : e8 D ys) (oh : ys.length ≤ 200) (tY : ∀ x ∈ ys, Sm x) (hB : bK B bs) (bb : BB bs) (hbb : bs.length ≤ 10000) :
 ∃ d, E X 45 [e7 n D B] H = some (d, H) ∧ sV d (fM n ys bs) := by
 obtain ⟨H1, ay⟩ : ∃ H1, H1 = H ++ [HO.box 70 [.int .i64 n, D, B]] := ⟨_, rfl⟩
 have dH : H1[H.length]? = some (.box 70 [.int .i64 n, D, B]) := by rw [ay]; simp
 have ht1 : H1.take H.length = H := by rw [ay, List.take_append_of_le_length (Nat.le_refl _)]; exact List.take_length
 obtain ⟨R, Ph, hR⟩ := JE (H := H1) (n := n) hD oh tY hB bb hbb
 have fB := hD.vw
 have key : ∀ il : List Nat, (∀ g, vw g 1 R = some (il.map iD)) → il.length ≤ 4096 → (∀ p ∈ il, p < ys.length) → ∃ d, E X 45 [e7 n D B] H = some (d, H) ∧ sV d (dZ ys il) := by
  intro il ku hl hlt
  obtain ⟨ex, h2, o2, hc, hg⟩ := Nj dH fB ku hl hlt il.length 0 H1 .nils (by omega) (by omega) aN.zero
  rw [show ((0 : Nat) : Int) = 0 from rfl] at hc
  obtain ⟨d, aA, hd⟩ := (hg.base ht1).valD
  refine ⟨d, ?_, hd⟩
  clear hg hd hlt hR ht1
  obtain ⟨ok, Ph⟩ : ∃ ok, E X 49 [e7 n D B] H1 = some (.tup [R, .bool ok], H1) := ⟨_, Ph⟩
  subst ay
  rw [Zv (X := X) _ PV _ rfl rfl]; unfold PV
  refine rn @Ph ?_
  refine Yy ?_
  rw [hc]
  refine rn trivial ?_
  simp only [Zh, ZV, lk, Za, List.map_cons, List.map_nil, reduceIte, Option.map_some, Nat.reduceEqDiff, aA]
 rcases hR with ⟨hok, hR⟩ | ⟨hok, hR⟩
 ·have hv : fM n ys bs = dZ ys (bL bs (wC ys.length) n.toNat) := by unfold fM; rw [if_pos hok]
  rw [hv]
  refine key _ (fun g => ?_) (by rw [gQ]; have := hok.2.1; omega) hok.2.2.2.2.1
  rcases hR with ⟨rfl, h0⟩ | rfl
  ·rw [h0]; rfl
  ·rfl
 ·have hv : fM n ys bs = dZ ys [] := by unfold fM; rw [if_neg hok]; rfl
  rw [hv]
  exact key [] (fun g => by rw [hR]; rfl) (by simp) (by simp)
theorem Qv {H : Zb} {n : Int} {D B : DV} {ys : List V} {bs : List Nat} (hD : e8 D ys) (oh : ys.length ≤ 200) (hB : bK B bs) (bb : BB bs) :
 ∃ d, E X 71 [e7 n D B] H = some (d, H) ∧ sV d (fM n ys bs) := by
 obtain ⟨H1, ay⟩ : ∃ H1, H1 = H ++ [HO.box 70 [.int .i64 n, D, B]] := ⟨_, rfl⟩
 have dH : H1[H.length]? = some (.box 70 [.int .i64 n, D, B]) := by rw [ay]; simp
 have ht1 : H1.take H.length = H := by rw [ay, List.take_append_of_le_length (Nat.le_refl _)]; exact List.take_length
 have fB := hD.vw
 by_cases hok : okC n ys bs
 ·have hv : fM n ys bs = dZ ys (bL bs (wC ys.length) n.toNat) := by unfold fM; rw [if_pos hok]
  rw [hv]
  obtain ⟨hn, hC⟩ := hok.col hD (by omega) hB bb
  obtain ⟨R, Km, ku⟩ := Bg hC H1
  rw [← hn] at Km
  have hlt := hok.2.2.2.2.1
  have hl : (bL bs (wC ys.length) n.toNat).length ≤ 4096 := by rw [gQ]; have := hok.2.1; omega
  generalize bL bs (wC ys.length) n.toNat = il at *
  obtain ⟨ex, h2, o2, hc, hg⟩ := M8 dH fB ku hl hlt il.length 0 H1 .nils (by omega) (by omega) aN.zero
  rw [show ((0 : Nat) : Int) = 0 from rfl] at hc
  obtain ⟨d, aA, hd⟩ := (hg.base ht1).valD
  refine ⟨d, ?_, hd⟩
  clear hg hd hlt ht1 hC hok hv hn
  subst ay
  rw [Zv (X := X) _ F7 _ rfl rfl]; unfold F7
  refine rn (aD @Km @ku) ?_
  refine Yy ?_
  rw [hc]
  refine rn trivial ?_
  simp only [Zh, ZV, lk, Za, List.map_cons, List.map_nil, reduceIte, Option.map_some, Nat.reduceEqDiff, aA]
 ·have hv : fM n ys bs = [] := by unfold fM; rw [if_neg hok]
  rw [hv]
  obtain ⟨R, il, Km, _⟩ := Bf (H := H1) (n := n) hD (by omega) hB bb hok
  refine ⟨.nils, ?_, .inl ⟨rfl, rfl⟩⟩
  subst ay
  clear hok hv
  rw [Zv (X := X) _ F7 _ rfl rfl]; unfold F7; exact rg @Km
def Te (r : List V) : DV := .list 4 (r.map V.d) false
theorem wI (r : List V) : Nr (Te r) := .list (jX r)
theorem wH {h : Zb} {r g t n : Nat} {xs : List V} (h1 : h[r]? = some (.row t 4 g (xs.map V.d))) (hn : xs.length = n) : vw h 4 (.row r g 0 n false) = some (xs.map V.d) := by
 subst hn; simp [vw, h1, List.take_of_length_le]
end Go.Proofs.YtmbgfbomgbdjeaaGreatDoor
