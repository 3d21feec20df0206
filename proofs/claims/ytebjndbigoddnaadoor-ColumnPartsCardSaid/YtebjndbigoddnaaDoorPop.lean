/- Plain facts: how many bits of a word are set, as math/bits counts them. No program is in sight. -/
namespace Go.Proofs.YtebjndbigoddnaaDoor
set_option linter.unusedVariables false
set_option linter.unusedSimpArgs false
/-- How many of the lowest n bits are set. -/
def pops (n x : Nat) : Nat := ((List.range n).filter fun j => x.testBit j).length
theorem and_split (y b a k : Nat) (hb : b < 256) (hk : k < 256) : (256 * y + b) &&& (256 * a + k) = 256 * (y &&& a) + (b &&& k) := by
  apply Nat.eq_of_testBit_eq
  intro j
  have hbk : b &&& k < 2 ^ 8 := Nat.lt_of_le_of_lt Nat.and_le_left hb
  rw [show (256 : Nat) = 2 ^ 8 from rfl, Nat.testBit_and, Nat.testBit_two_pow_mul_add _ hb, Nat.testBit_two_pow_mul_add _ hk, Nat.testBit_two_pow_mul_add _ hbk]
  split
  · rw [Nat.testBit_and]
  · rw [Nat.testBit_and]
theorem low55 : ∀ w : Fin 128, (128 + w.val) &&& 85 = w.val &&& 85 := by decide +kernel
theorem low33 : ∀ t : Fin 4, ∀ w : Fin 64, (64 * t.val + w.val) &&& 51 = w.val &&& 51 := by decide +kernel
theorem and15 (x : Nat) : x &&& 15 = x % 16 := Nat.and_two_pow_sub_one_eq_mod x 4
def stp1 (a x : Nat) : Nat := (x / 2 &&& a) + (x &&& a)
def st2 (c x : Nat) : Nat := (x / 4 &&& c) + (x &&& c)
def st3 (d x : Nat) : Nat := (x / 16 + x) &&& d
theorem st1_split (a y b : Nat) (hb : b < 256) : stp1 (256 * a + 85) (256 * y + b) = 256 * stp1 a y + stp1 85 b := by
  have h1 : (256 * y + b) / 2 = 256 * (y / 2) + (128 * (y % 2) + b / 2) := by omega
  have h2 : (128 * (y % 2) + b / 2) &&& 85 = b / 2 &&& 85 := by
    rcases Nat.mod_two_eq_zero_or_one y with h | h
    · rw [h, Nat.mul_zero, Nat.zero_add]
    · rw [h]; exact low55 ⟨b / 2, by omega⟩
  simp only [stp1]
  rw [h1, and_split _ _ _ _ (by omega) (by omega), and_split _ _ _ _ hb (by omega), h2]
  omega
theorem st2_split (c y b : Nat) (hb : b < 256) : st2 (256 * c + 51) (256 * y + b) = 256 * st2 c y + st2 51 b := by
  have h1 : (256 * y + b) / 4 = 256 * (y / 4) + (64 * (y % 4) + b / 4) := by omega
  have h2 : (64 * (y % 4) + b / 4) &&& 51 = b / 4 &&& 51 := low33 ⟨y % 4, by omega⟩ ⟨b / 4, by omega⟩
  simp only [st2]
  rw [h1, and_split _ _ _ _ (by omega) (by omega), and_split _ _ _ _ hb (by omega), h2]
  omega
theorem and_mod16 (p c : Nat) (hc : c % 16 ≤ 3) : (p &&& c) % 16 ≤ 3 := by
  rw [← and15, Nat.and_assoc, and15]
  exact Nat.le_trans Nat.and_le_right hc
theorem st2_mod {c y : Nat} (hc : c % 16 ≤ 3) : st2 c y % 16 ≤ 6 := by
  have h1 := and_mod16 (y / 4) c hc
  have h2 := and_mod16 y c hc
  simp only [st2]
  omega
theorem st3_split (d u v : Nat) (hu : u % 16 ≤ 6) (hv : v ≤ 102) : st3 (256 * d + 15) (256 * u + v) = 256 * st3 d u + st3 15 v := by
  have h1 : (256 * u + v) / 16 + (256 * u + v) = 256 * (u / 16 + u) + (16 * (u % 16) + (v / 16 + v)) := by omega
  simp only [st3]
  rw [h1, and_split _ _ _ _ (by omega) (by omega), and15, and15]
  omega
def p8 (b : Nat) : Nat := st3 15 (st2 51 (stp1 85 b))
theorem p8_eq : ∀ b : Fin 256, p8 b.val = pops 8 b.val := by decide +kernel
theorem st1_le (b : Nat) : stp1 85 b ≤ 170 := by
  have h1 : (b / 2 &&& 85) ≤ 85 := Nat.and_le_right
  have h2 : (b &&& 85) ≤ 85 := Nat.and_le_right
  simp only [stp1]; omega
theorem st2_le (b : Nat) : st2 51 b ≤ 102 := by
  have h1 : (b / 4 &&& 51) ≤ 51 := Nat.and_le_right
  have h2 : (b &&& 51) ≤ 51 := Nat.and_le_right
  simp only [st2]; omega
def sts (a c d x : Nat) : Nat := st3 d (st2 c (stp1 a x))
theorem sts_split (a c d y b : Nat) (hc : c % 16 ≤ 3) (hb : b < 256) : sts (256 * a + 85) (256 * c + 51) (256 * d + 15) (256 * y + b) = 256 * sts a c d y + p8 b := by
  simp only [sts, p8]
  rw [st1_split _ _ _ hb, st2_split _ _ _ (by have := st1_le b; omega), st3_split _ _ _ (st2_mod hc) (st2_le _)]
theorem pops_split (n y b : Nat) (hb : b < 256) : pops (8 + n) (256 * y + b) = pops 8 b + pops n y := by
  simp only [pops, List.range_add, List.filter_append, List.length_append, List.filter_map, List.length_map]
  congr 2
  · apply List.filter_congr
    intro j hj
    have := List.mem_range.1 hj
    rw [show (256 : Nat) = 2 ^ 8 from rfl, Nat.testBit_two_pow_mul_add _ hb, if_pos this]
  · apply List.filter_congr
    intro j hj
    simp only [Function.comp]
    rw [show (256 : Nat) = 2 ^ 8 from rfl, Nat.testBit_two_pow_mul_add _ hb, if_neg (by omega), Nat.add_sub_cancel_left]
theorem p8_le : ∀ b : Fin 256, p8 b.val ≤ 8 := by decide +kernel
theorem dv8 (q r : Nat) (h : r < 256) : (256 * q + r) / 256 = q := by omega
theorem dv16 (q r : Nat) (h : r < 65536) : (65536 * q + r) / 65536 = q := by omega
theorem dv32 (q r : Nat) (h : r < 4294967296) : (4294967296 * q + r) / 4294967296 = q := by omega
theorem md7 (q r : Nat) (h : r < 128) : (256 * q + r) % 128 = r := by omega
section
variable (p0 p1 p2 p3 p4 p5 p6 p7 : Nat)
theorem id1 : 256 * (256 * (256 * (256 * (256 * (256 * (256 * p7 + p6) + p5) + p4) + p3) + p2) + p1) + p0 + (256 * (256 * (256 * (256 * (256 * (256 * p7 + p6) + p5) + p4) + p3) + p2) + p1) =
    65536 * (256 * (256 * (256 * (256 * (256 * p7 + (p6 + p7)) + (p5 + p6)) + (p4 + p5)) + (p3 + p4)) + (p2 + p3)) + (256 * (p1 + p2) + (p0 + p1)) := by omega
theorem id2 : 65536 * (256 * (256 * (256 * (256 * (256 * p7 + (p6 + p7)) + (p5 + p6)) + (p4 + p5)) + (p3 + p4)) + (p2 + p3)) + (256 * (p1 + p2) + (p0 + p1)) + (256 * (256 * (256 * (256 * (256 * p7 + (p6 + p7)) + (p5 + p6)) + (p4 + p5)) + (p3 + p4)) + (p2 + p3)) =
    4294967296 * (256 * (256 * (256 * p7 + (p6 + p7)) + (p5 + p6 + p7)) + (p4 + p5 + p6 + p7)) + (256 * (256 * (256 * (p3 + p4 + p5 + p6) + (p2 + p3 + p4 + p5)) + (p1 + p2 + p3 + p4)) + (p0 + p1 + p2 + p3)) := by omega
theorem id3 : 4294967296 * (256 * (256 * (256 * p7 + (p6 + p7)) + (p5 + p6 + p7)) + (p4 + p5 + p6 + p7)) + (256 * (256 * (256 * (p3 + p4 + p5 + p6) + (p2 + p3 + p4 + p5)) + (p1 + p2 + p3 + p4)) + (p0 + p1 + p2 + p3)) + (256 * (256 * (256 * p7 + (p6 + p7)) + (p5 + p6 + p7)) + (p4 + p5 + p6 + p7)) =
    256 * (16777216 * (256 * (256 * (256 * p7 + (p6 + p7)) + (p5 + p6 + p7)) + (p4 + p5 + p6 + p7)) + (256 * (256 * (p3 + p4 + p5 + p6) + (p2 + p3 + p4 + p5)) + (p1 + p2 + p3 + p4)) + (256 * (256 * p7 + (p6 + p7)) + (p5 + p6 + p7))) + (p0 + p1 + p2 + p3 + p4 + p5 + p6 + p7) := by omega
end
/-- The sum of eight lanes. -/
theorem lanes (p0 p1 p2 p3 p4 p5 p6 p7 : Nat) (h0 : p0 ≤ 8) (h1 : p1 ≤ 8) (h2 : p2 ≤ 8) (h3 : p3 ≤ 8) (h4 : p4 ≤ 8) (h5 : p5 ≤ 8) (h6 : p6 ≤ 8) (h7 : p7 ≤ 8) (y y1 y2 y3 : Nat)
    (hy : y = 256 * (256 * (256 * (256 * (256 * (256 * (256 * p7 + p6) + p5) + p4) + p3) + p2) + p1) + p0) (hy1 : y1 = y + y / 256) (hy2 : y2 = y1 + y1 / 65536) (hy3 : y3 = y2 + y2 / 4294967296) :
    y3 % 128 = p0 + p1 + p2 + p3 + p4 + p5 + p6 + p7 := by
  have b1 : 256 * (p1 + p2) + (p0 + p1) < 65536 := by omega
  have b2 : 256 * (256 * (256 * (p3 + p4 + p5 + p6) + (p2 + p3 + p4 + p5)) + (p1 + p2 + p3 + p4)) + (p0 + p1 + p2 + p3) < 4294967296 := by omega
  have b3 : p0 + p1 + p2 + p3 + p4 + p5 + p6 + p7 < 128 := by omega
  rw [hy, dv8 _ _ (Nat.lt_of_le_of_lt h0 (by decide)), id1] at hy1
  rw [hy1, dv16 _ _ b1, id2] at hy2
  rw [hy2, dv32 _ _ b2, id3] at hy3
  rw [hy3, md7 _ _ b3]
/-- As math/bits counts. -/
def popM (x : Nat) : Nat :=
  let y := sts 6148914691236517205 3689348814741910323 1085102592571150095 x
  let y1 := y + y / 256
  let y2 := y1 + y1 / 65536
  (y2 + y2 / 4294967296) % 128
theorem sts_bytes (x : Nat) (hx : x < 18446744073709551616) : ∃ p0 p1 p2 p3 p4 p5 p6 p7 : Nat, p0 ≤ 8 ∧ p1 ≤ 8 ∧ p2 ≤ 8 ∧ p3 ≤ 8 ∧ p4 ≤ 8 ∧ p5 ≤ 8 ∧ p6 ≤ 8 ∧ p7 ≤ 8 ∧
    sts 6148914691236517205 3689348814741910323 1085102592571150095 x = 256 * (256 * (256 * (256 * (256 * (256 * (256 * p7 + p6) + p5) + p4) + p3) + p2) + p1) + p0 ∧ pops 64 x = p0 + p1 + p2 + p3 + p4 + p5 + p6 + p7 := by
  obtain ⟨x1, b0, e0, l0⟩ : ∃ y b, x = 256 * y + b ∧ b < 256 := ⟨x / 256, x % 256, by omega, by omega⟩
  obtain ⟨x2, b1, e1, l1⟩ : ∃ y b, x1 = 256 * y + b ∧ b < 256 := ⟨x1 / 256, x1 % 256, by omega, by omega⟩
  obtain ⟨x3, b2, e2, l2⟩ : ∃ y b, x2 = 256 * y + b ∧ b < 256 := ⟨x2 / 256, x2 % 256, by omega, by omega⟩
  obtain ⟨x4, b3, e3, l3⟩ : ∃ y b, x3 = 256 * y + b ∧ b < 256 := ⟨x3 / 256, x3 % 256, by omega, by omega⟩
  obtain ⟨x5, b4, e4, l4⟩ : ∃ y b, x4 = 256 * y + b ∧ b < 256 := ⟨x4 / 256, x4 % 256, by omega, by omega⟩
  obtain ⟨x6, b5, e5, l5⟩ : ∃ y b, x5 = 256 * y + b ∧ b < 256 := ⟨x5 / 256, x5 % 256, by omega, by omega⟩
  obtain ⟨b7, b6, e6, l6⟩ : ∃ y b, x6 = 256 * y + b ∧ b < 256 := ⟨x6 / 256, x6 % 256, by omega, by omega⟩
  have l7 : b7 < 256 := by omega
  have q : ∀ b, b < 256 → p8 b ≤ 8 ∧ p8 b = pops 8 b := fun b hb => ⟨p8_le ⟨b, hb⟩, p8_eq ⟨b, hb⟩⟩
  refine ⟨p8 b0, p8 b1, p8 b2, p8 b3, p8 b4, p8 b5, p8 b6, p8 b7, (q _ l0).1, (q _ l1).1, (q _ l2).1, (q _ l3).1, (q _ l4).1, (q _ l5).1, (q _ l6).1, (q _ l7).1, ?_, ?_⟩
  · have f0 := sts_split 24019198012642645 14411518807585587 4238682002231055 x1 b0 (by decide) l0
    have f1 := sts_split 93824992236885 56294995342131 16557351571215 x2 b1 (by decide) l1
    have f2 := sts_split 366503875925 219902325555 64677154575 x3 b2 (by decide) l2
    have f3 := sts_split 1431655765 858993459 252645135 x4 b3 (by decide) l3
    have f4 := sts_split 5592405 3355443 986895 x5 b4 (by decide) l4
    have f5 := sts_split 21845 13107 3855 x6 b5 (by decide) l5
    have f6 := sts_split 85 51 15 b7 b6 (by decide) l6
    have f7 : sts 85 51 15 b7 = p8 b7 := rfl
    simp only [Nat.reduceMul, Nat.reduceAdd] at f0 f1 f2 f3 f4 f5 f6
    rw [e0, f0, e1, f1, e2, f2, e3, f3, e4, f4, e5, f5, e6, f6, f7]
  · have g0 := pops_split 56 x1 b0 l0
    have g1 := pops_split 48 x2 b1 l1
    have g2 := pops_split 40 x3 b2 l2
    have g3 := pops_split 32 x4 b3 l3
    have g4 := pops_split 24 x5 b4 l4
    have g5 := pops_split 16 x6 b5 l5
    have g6 := pops_split 8 b7 b6 l6
    simp only [Nat.reduceAdd] at g0 g1 g2 g3 g4 g5 g6
    rw [e0, g0, e1, g1, e2, g2, e3, g3, e4, g4, e5, g5, e6, g6, (q _ l0).2, (q _ l1).2, (q _ l2).2, (q _ l3).2, (q _ l4).2, (q _ l5).2, (q _ l6).2, (q _ l7).2]
    omega
theorem popM_eq (x : Nat) (hx : x < 18446744073709551616) : popM x = pops 64 x := by
  obtain ⟨p0, p1, p2, p3, p4, p5, p6, p7, h0, h1, h2, h3, h4, h5, h6, h7, hs, hp⟩ := sts_bytes x hx
  rw [hp]
  exact (lanes p0 p1 p2 p3 p4 p5 p6 p7 h0 h1 h2 h3 h4 h5 h6 h7 _ _ _ _ hs rfl rfl rfl)
/-- The steps stay within a word. -/
theorem steps_lt (x : Nat) (hx : x < 18446744073709551616) : stp1 6148914691236517205 x ≤ 12297829382473034410 ∧ st2 3689348814741910323 (stp1 6148914691236517205 x) ≤ 7378697629483820646 ∧ sts 6148914691236517205 3689348814741910323 1085102592571150095 x ≤ 1085102592571150095 := by
  have h1 : (x / 2 &&& 6148914691236517205) ≤ 6148914691236517205 := Nat.and_le_right
  have h2 : (x &&& 6148914691236517205) ≤ 6148914691236517205 := Nat.and_le_right
  have h3 : (stp1 6148914691236517205 x / 4 &&& 3689348814741910323) ≤ 3689348814741910323 := Nat.and_le_right
  have h4 : (stp1 6148914691236517205 x &&& 3689348814741910323) ≤ 3689348814741910323 := Nat.and_le_right
  refine ⟨by simp only [stp1]; omega, by simp only [st2]; omega, ?_⟩
  simp only [sts, st3]
  exact Nat.and_le_right
end Go.Proofs.YtebjndbigoddnaaDoor
