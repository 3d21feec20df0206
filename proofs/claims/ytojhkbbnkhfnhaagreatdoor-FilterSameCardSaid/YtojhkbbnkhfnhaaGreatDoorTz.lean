/- A word's lowest bit: TrailingZeros64, told by the ideal machine; and words without their lowest bit. -/
import Derived.Test.YtojhkbbnkhfnhaaGreatDoorChecked
import Derived.Test.YtojhkbbnkhfnhaaGreatDoorStep
import Derived.Test.YtojhkbbnkhfnhaaGreatDoorWrap
namespace Go.Proofs.YtojhkbbnkhfnhaaGreatDoor
attribute [local go_sem] Ya ZT ZV ZW ZO ZF ZM ZI ZK ZB ZC ZJ ZP ZQ ZX ZN ZG ZU Zp Zm Yg ZS Yq put lk Od.v Za ZE ZA YB Ym Yn Yo unx YE DV.isU DV.cells hget Yb Yj Yd ZL splice Ye mat Yi YD one_bool one_int one_str one_nilp one_ref one_elem one_nils one_list one_row one_nilm one_map one_nilf one_func one_nili one_ifc one_agg one_tup one_undef one_fresh
attribute [local go_sem ↓] ZH
set_option linter.unusedVariables false
set_option linter.unusedSimpArgs false
set_option maxRecDepth 100000

def dbL : List DV := deBruijn.map (.int .u8)
/-- math/bits.TrailingZeros64 -/
def tzB : XC := .seq (.reg [⟨some 2, .mov (.c (.int .i64 0)), none, false⟩] [0]) (.seq (.seq (.reg [⟨some 3, .mov (.t 0), none, false⟩, ⟨some 4, .bin .eql (.t 3) (.c (.int .u64 0)), none, false⟩] [0, 4]) (.cond (.t 4) (.seq (.reg [⟨some 2, .mov (.c (.int .i64 64)), none, false⟩] [2]) .ret) .skip)) (.seq (.reg [⟨some 5, .mov (.t 0), none, false⟩, ⟨some 6, .mov (.t 0), none, false⟩, ⟨some 7, .un .neg (.t 6), none, false⟩, ⟨some 8, .bin .and (.t 5) (.t 7), none, false⟩, ⟨some 9, .bin .mul (.t 8) (.c (.int .u64 285870213051353865)), none, false⟩, ⟨some 10, .bin .shr (.t 9) (.c (.int .u64 58)), none, false⟩, ⟨some 11, .iaddra 64 1 (.c (.elem (.list 64 [.agg dbL] true) 64 0 0)) (.t 10), none, false⟩, ⟨some 12, .load false 1 (.t 11), none, false⟩, ⟨some 13, .toint .i64 (.t 12), none, false⟩, ⟨some 2, .mov (.t 13), none, false⟩] [2]) .ret))
def tzX : XF := ⟨1, tzB, [.t 2]⟩
def tzH : Yl := fun id => match id with
  | 0 => [0]
  | 1 => [0, 4]
  | 2 => [2]
  | 3 => [2]
  | _ => []
theorem tzCv : cvF Tryz.prog tzH Tryz.f88 = some tzX := by kernel_rfl

def X0 : Nat → Option XK := fun f => match f with
  | 88 => some (.fn tzX)
  | _ => none
def hints0 : Nat → Yl := fun f => match f with
  | 88 => tzH
  | _ => fun _ => []
theorem sound0 : Sound Tryz.prog X0 hints0 where
  mixed := by kernel_rfl
  ext f g h := by unfold X0 at h; split at h <;> first | cases h
  fn f x h := by
    unfold X0 at h
    split at h
    · injection h with h; injection h with h; subst h; exact ⟨Tryz.f88, by kernel_rfl, tzCv⟩
    · cases h

theorem wrapu (n : Nat) : IntKind.u64.wrap (n : Int) = ((n % 18446744073709551616 : Nat) : Int) := by
  simp [IntKind.wrap, IntKind.bits, IntKind.signed]
theorem bits_u : 2 ^ IntKind.u64.bits = 18446744073709551616 := rfl
theorem and_n {a b : Nat} (ha : a < 18446744073709551616) (hb : b < 18446744073709551616) : IntKind.u64.wrap ((a % 2 ^ IntKind.u64.bits &&& b % 2 ^ IntKind.u64.bits : Nat) : Int) = ((a &&& b : Nat) : Int) := by
  rw [bits_u, Nat.mod_eq_of_lt ha, Nat.mod_eq_of_lt hb, wrapu, Nat.mod_eq_of_lt]
  exact Nat.lt_of_le_of_lt Nat.and_le_right hb
/-- A word is a power of two times an odd number. -/
theorem low_split : ∀ (n u : Nat), u ≤ n → 0 < u → ∃ t m, u = 2 ^ t * (2 * m + 1) := by
  intro n
  induction n with
  | zero => intro u h h0; omega
  | succ n ih =>
    intro u h h0
    by_cases e : u % 2 = 1
    · exact ⟨0, u / 2, by omega⟩
    · obtain ⟨t, m, hm⟩ := ih (u / 2) (by omega) (by omega)
      refine ⟨t + 1, m, ?_⟩
      have : u = 2 * (u / 2) := by omega
      rw [this, hm, Nat.pow_succ]
      generalize 2 ^ t = p
      rw [Nat.mul_comm p 2, Nat.mul_assoc]
theorem split_bit (t m j : Nat) : (2 ^ t * (2 * m + 1)).testBit j = (decide (t = j) || (decide (t < j) && m.testBit (j - (t + 1)))) := by
  have h := Nat.testBit_two_pow_mul_add (i := t) (2 * m + 1) (b := 0) (Nat.two_pow_pos t) j
  rw [Nat.add_zero] at h
  rw [h]
  by_cases c : j < t
  · rw [if_pos c]
    have h1 : ¬ t = j := by omega
    have h2 : ¬ t < j := by omega
    simp [h1, h2]
  · rw [if_neg c]
    by_cases d : t = j
    · subst d; simp
    · have h2 : t < j := by omega
      obtain ⟨i, rfl⟩ : ∃ i, j = t + 1 + i := ⟨j - (t + 1), by omega⟩
      rw [show t + 1 + i - t = i + 1 by omega, show t + 1 + i - (t + 1) = i by omega, Nat.testBit_succ, show (2 * m + 1) / 2 = m by omega]
      simp [d, h2]
theorem pred_bit (t m j : Nat) : (2 ^ t * (2 * m + 1) - 1).testBit j = (decide (j < t) || (decide (t < j) && m.testBit (j - (t + 1)))) := by
  have hp := Nat.two_pow_pos t
  have e : 2 ^ t * (2 * m + 1) - 1 = 2 ^ t * (2 * m) + (2 ^ t - 1) := by rw [Nat.mul_add, Nat.mul_one]; omega
  rw [e, Nat.testBit_two_pow_mul_add (i := t) (2 * m) (b := 2 ^ t - 1) (by omega) j]
  by_cases c : j < t
  · rw [if_pos c, Nat.testBit_two_pow_sub_one]; simp [c]
  · rw [if_neg c]
    by_cases d : t = j
    · subst d; simp
    · have h2 : t < j := by omega
      obtain ⟨i, rfl⟩ : ∃ i, j = t + 1 + i := ⟨j - (t + 1), by omega⟩
      rw [show t + 1 + i - t = i + 1 by omega, show t + 1 + i - (t + 1) = i by omega, Nat.testBit_succ, show (2 * m) / 2 = m by omega]
      simp [c, h2]
theorem drop_low_bit (t m j : Nat) : ((2 ^ t * (2 * m + 1)) &&& (2 ^ t * (2 * m + 1) - 1)).testBit j = ((2 ^ t * (2 * m + 1)).testBit j && !decide (t = j)) := by
  rw [Nat.testBit_and, pred_bit, split_bit]
  by_cases d : t = j
  · subst d; simp
  · by_cases c : j < t
    · have h2 : ¬ t < j := by omega
      simp [d, c, h2]
    · simp [d, c]
theorem drop_low_lt {u : Nat} (h : 0 < u) : (u &&& (u - 1)) < u := Nat.lt_of_le_of_lt Nat.and_le_right (by omega)
theorem low_bit {t m : Nat} (h : 2 ^ t * (2 * m + 1) < 18446744073709551616) : (2 ^ t * (2 * m + 1)) &&& (18446744073709551616 - 2 ^ t * (2 * m + 1)) = 2 ^ t := by
  apply Nat.eq_of_testBit_eq
  intro j
  have hp := Nat.two_pow_pos t
  have e : 18446744073709551616 - 2 ^ t * (2 * m + 1) = 2 ^ 64 - (2 ^ t * (2 * m + 1) - 1 + 1) := by
    have : 0 < 2 ^ t * (2 * m + 1) := Nat.mul_pos hp (by omega)
    omega
  rw [e, Nat.testBit_and, Nat.testBit_two_pow_sub_succ (by omega), pred_bit, split_bit, Nat.testBit_two_pow]
  by_cases d : t = j
  · subst d
    have : t < 64 := by
      refine Nat.lt_of_not_le fun hc => ?_
      have : 2 ^ 64 ≤ 2 ^ t := Nat.pow_le_pow_right (by omega) hc
      have : 2 ^ t * 1 ≤ 2 ^ t * (2 * m + 1) := Nat.mul_le_mul_left _ (by omega)
      omega
    simp [this]
  · by_cases c : j < t
    · have h2 : ¬ t < j := by omega
      simp [d, c, h2]
    · have h2 : t < j := by omega
      simp [d, h2]
      exact fun a _ _ => a
theorem split_lt {t m : Nat} (h : 2 ^ t * (2 * m + 1) < 18446744073709551616) : t < 64 := by
  refine Nat.lt_of_not_le fun hc => ?_
  have : 2 ^ 64 ≤ 2 ^ t := Nat.pow_le_pow_right (by omega) hc
  have : 2 ^ t * 1 ≤ 2 ^ t * (2 * m + 1) := Nat.mul_le_mul_left _ (by omega)
  omega
theorem tz_tab : ∀ t : Nat, t < 64 → deBruijn[(2 ^ t * 285870213051353865 % 18446744073709551616) / 288230376151711744]? = some (t : Int) := by decide
/-- The numbers of a word. -/
def wbits (k u : Nat) : List Nat := ((List.range 64).filter fun j => u.testBit j).map fun j => k * 64 + j
theorem wbits_zero (k : Nat) : wbits k 0 = [] := by simp [wbits]
theorem wbits_low (k t m : Nat) (h : t < 64) : wbits k (2 ^ t * (2 * m + 1)) = (k * 64 + t) :: wbits k ((2 ^ t * (2 * m + 1)) &&& (2 ^ t * (2 * m + 1) - 1)) := by
  have hr : List.range 64 = List.range t ++ t :: (List.range (63 - t)).map fun j => t + 1 + j := by
    apply List.ext_getElem?
    intro i
    by_cases c : i < t
    · rw [List.getElem?_append_left (by simpa using c), List.getElem?_range c, List.getElem?_range (by omega)]
    · rw [List.getElem?_append_right (by simp; omega)]
      by_cases d : i = t
      · subst d; simp [h]
      · obtain ⟨l, rfl⟩ : ∃ l, i = t + 1 + l := ⟨i - (t + 1), by omega⟩
        rw [show t + 1 + l - (List.range t).length = l + 1 by simp; omega, List.getElem?_cons_succ]
        by_cases e : l < 63 - t
        · rw [List.getElem?_map, List.getElem?_range e, List.getElem?_range (by omega)]; rfl
        · rw [List.getElem?_eq_none (by simp; omega), List.getElem?_eq_none (by simp; omega)]
  have f1 : (List.range t).filter (fun j => (2 ^ t * (2 * m + 1)).testBit j) = [] := by
    rw [List.filter_eq_nil_iff]
    intro j hj
    rw [List.mem_range] at hj
    rw [split_bit]
    have h1 : ¬ t = j := by omega
    have h2 : ¬ t < j := by omega
    simp [h1, h2]
  have f2 : (List.range t).filter (fun j => ((2 ^ t * (2 * m + 1)) &&& (2 ^ t * (2 * m + 1) - 1)).testBit j) = [] := by
    rw [List.filter_eq_nil_iff]
    intro j hj
    rw [List.mem_range] at hj
    rw [drop_low_bit, split_bit]
    have h1 : ¬ t = j := by omega
    have h2 : ¬ t < j := by omega
    simp [h1, h2]
  have f3 : ((List.range (63 - t)).map fun j => t + 1 + j).filter (fun j => ((2 ^ t * (2 * m + 1)) &&& (2 ^ t * (2 * m + 1) - 1)).testBit j) = ((List.range (63 - t)).map fun j => t + 1 + j).filter (fun j => (2 ^ t * (2 * m + 1)).testBit j) := by
    refine List.filter_congr ?_
    intro j hj
    obtain ⟨l, _, rfl⟩ := List.mem_map.1 hj
    rw [drop_low_bit]
    have h1 : ¬ t = t + 1 + l := by omega
    simp [h1]
  have g1 : (2 ^ t * (2 * m + 1)).testBit t = true := by rw [split_bit]; simp
  have g2 : ((2 ^ t * (2 * m + 1)) &&& (2 ^ t * (2 * m + 1) - 1)).testBit t = false := by rw [drop_low_bit]; simp
  unfold wbits
  rw [hr, List.filter_append, List.filter_append, f1, f2, List.filter_cons, List.filter_cons, g1, g2, f3]
  simp
theorem dbL_at {i : Nat} {t : Int} (h : deBruijn[i]? = some t) : dbL[i]? = some (.int .u8 t) := by
  rw [dbL, List.getElem?_map, h]; rfl
theorem dbL_ld (h : ZD) {i : Nat} {t : Int} (hi : i < 64) (ht : deBruijn[i]? = some t) : ZR h false 1 (.elem (.list 64 [.agg dbL] true) 64 0 i) = some (.int .u8 t) := by
  simp [ZR, vw, DV.cells, YB, dbL_at ht]
theorem ev1 {call : CallF} {d : Option Nat} {op : XOp} {l : List XOper} {e : Env} {h h' : ZD} {v : DV} (h1 : Yg call op e h = some (v, h')) : Ya call (⟨d, op, none, false⟩ :: l) e h = Ya call l (put d v e) h' := by
  simp only [Ya, ZT, h1]
theorem run88 {t m : Nat} (h : 2 ^ t * (2 * m + 1) < 18446744073709551616) (H : ZD) : E X0 88 [.int .u64 ((2 ^ t * (2 * m + 1) : Nat) : Int)] H = some (.int .i64 (t : Int), H) := by
  have h1 := low_bit h
  have h2 := split_lt h
  have h3 := tz_tab t h2
  have h4 : 0 < 2 ^ t * (2 * m + 1) := Nat.mul_pos (Nat.two_pow_pos t) (by omega)
  have hPl : 2 ^ t < 18446744073709551616 := Nat.pow_lt_pow_right (by omega : 1 < 2) h2
  generalize hu : 2 ^ t * (2 * m + 1) = u at h h1 h4 ⊢
  obtain ⟨P, hP⟩ : ∃ P, P = 2 ^ t := ⟨_, rfl⟩
  rw [← hP] at h1 h3 hPl
  obtain ⟨N, hN⟩ : ∃ N, N = 18446744073709551616 - u := ⟨_, rfl⟩
  rw [← hN] at h1
  obtain ⟨M, hM⟩ : ∃ M, M = P * 285870213051353865 % 18446744073709551616 := ⟨_, rfl⟩
  rw [← hM] at h3
  obtain ⟨I, hI⟩ : ∃ I, I = M / 288230376151711744 := ⟨_, rfl⟩
  rw [← hI] at h3
  have hIl : I < 64 := by omega
  have w1 : IntKind.u64.wrap (-(u : Int)) = (N : Int) := by
    have e : IntKind.u64.wrap (-(u : Int)) = (-(u : Int)) % 18446744073709551616 := by simp [IntKind.wrap, IntKind.bits, IntKind.signed]
    rw [e]; omega
  have w2 := and_n h (show N < 18446744073709551616 by omega)
  rw [h1] at w2
  have w3 : IntKind.u64.wrap ((P : Int) * 285870213051353865) = (M : Int) := by
    rw [show (P : Int) * 285870213051353865 = ((P * 285870213051353865 : Nat) : Int) by simp, wrapu, hM]
  have w4 : ((M : Int)).fdiv (2 ^ min 58 IntKind.u64.bits) = (I : Int) := by
    rw [show (2 : Int) ^ min 58 IntKind.u64.bits = 288230376151711744 by simp [IntKind.bits], hI, Int.fdiv_eq_ediv_of_nonneg _ (by omega)]
    omega
  have w5 : IntKind.i64.wrap (t : Int) = (t : Int) := wrap64 _ (by omega) (by omega)
  have l1 := dbL_ld H hIl h3
  have c0 : ((u : Int) == 0) = false := beq_false_of_ne (by omega)
  have c1 : ¬ u = 0 := by omega
  have c2 : (0 : Int) ≤ I ∧ (I : Int) < 64 := by omega
  clear h1 h3 hP hM hI hN
  rw [Yc (X := X0) _ tzB _ rfl rfl]; unfold tzB
  rw [Zc (by simp [go_sem]; exact ⟨rfl, rfl⟩)]
  rw [Zj]
  rw [Zc (by simp [go_sem, c0, c1]; exact ⟨rfl, rfl⟩)]
  rw [Zv (by simp [lk, Za, Od.v, c0, c1]; exact rfl)]
  rw [Zm]
  rw [Zl]
  have hE : ∀ q : Env, lk q 0 = .int .u64 u → ∃ e', Ya (E X0) [⟨some 5, .mov (.t 0), none, false⟩, ⟨some 6, .mov (.t 0), none, false⟩, ⟨some 7, .un .neg (.t 6), none, false⟩, ⟨some 8, .bin .and (.t 5) (.t 7), none, false⟩, ⟨some 9, .bin .mul (.t 8) (.c (.int .u64 285870213051353865)), none, false⟩, ⟨some 10, .bin .shr (.t 9) (.c (.int .u64 58)), none, false⟩, ⟨some 11, .iaddra 64 1 (.c (.elem (.list 64 [.agg dbL] true) 64 0 0)) (.t 10), none, false⟩, ⟨some 12, .load false 1 (.t 11), none, false⟩, ⟨some 13, .toint .i64 (.t 12), none, false⟩, ⟨some 2, .mov (.t 13), none, false⟩] q H = some (e', H) ∧ lk e' 2 = .int .i64 t := by
    intro q hq
    refine ⟨(2, .int .i64 t) :: (13, .int .i64 t) :: (12, .int .u8 t) :: (11, .elem (.list 64 [.agg dbL] true) 64 0 I) :: (10, .int .u64 I) :: (9, .int .u64 M) :: (8, .int .u64 P) :: (7, .int .u64 N) :: (6, .int .u64 u) :: (5, .int .u64 u) :: q, ?_, ?_⟩
    · rw [ev1 (v := .int .u64 u) (h' := H) (by simp [Yg, ZS, Yq, Od.v, hq])]
      rw [ev1 (v := .int .u64 u) (h' := H) (by simp [Yg, ZS, Yq, Od.v, hq, put, lk])]
      rw [ev1 (v := .int .u64 N) (h' := H) (by simp [Yg, ZS, Yq, Od.v, put, lk, unx, w1])]
      rw [ev1 (v := .int .u64 P) (h' := H) (by simp [Yg, ZS, Yq, Od.v, put, lk, Ym, Yn, w2])]
      rw [ev1 (v := .int .u64 M) (h' := H) (by simp [Yg, ZS, Yq, Od.v, put, lk, Ym, Yn, w3])]
      rw [ev1 (v := .int .u64 I) (h' := H) (by simp [Yg, ZS, Yq, Od.v, put, lk, Ym, Yn, w4])]
      rw [ev1 (v := .elem (.list 64 [.agg dbL] true) 64 0 I) (h' := H) (by simp [Yg, ZS, Yq, Od.v, put, lk, c2])]
      rw [ev1 (v := .int .u8 t) (h' := H) (by simp [Yg, ZS, Yq, Od.v, put, lk, l1])]
      rw [ev1 (v := .int .i64 t) (h' := H) (by simp [Yg, ZS, Yq, Od.v, put, lk, w5])]
      rw [ev1 (v := .int .i64 t) (h' := H) (by simp [Yg, ZS, Yq, Od.v, put, lk])]
      rfl
    · simp [put, lk]
  obtain ⟨e', he1, he2⟩ := hE (Za [0, 4] [(4, .bool false), (3, .int .u64 u), (0, .int .u64 u)]) (by simp [Za, lk])
  rw [Zc he1, Zt]
  simp [Zr, ZY, Za, lk, fin, Yt, Yu, he2]
end Go.Proofs.YtojhkbbnkhfnhaaGreatDoor
