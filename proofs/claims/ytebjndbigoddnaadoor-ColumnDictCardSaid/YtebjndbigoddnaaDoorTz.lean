/- A word's lowest bit: TrailingZeros64, told by the ideal machine; and words without their lowest bit. The relation lives on where memory has only grown; one of the new blocks may be given a number. winnowerlaw09.List: the numbers of a set, by the kit's laws on ranges over functions. -/
import Derived.Test.YtebjndbigoddnaaDoorChecked
import Derived.Test.YtebjndbigoddnaaDoorStep
import Derived.Test.YtebjndbigoddnaaDoorEngL
import Derived.Test.YtebjndbigoddnaaDoorFrameA
import Derived.RangeFuncKeeps
import Derived.RangeFuncCalls
import Derived.RangeFuncLeaves
import Derived.Shelf.Abstract
import Derived.WalkKit
import Derived.OwnWalkIn
import Derived.TacticsInMore
import Derived.LoopNIn
import Derived.LoopIn
import Derived.Maps.AppendAt
import Derived.RangeFuncBox
namespace Go.Proofs.YtebjndbigoddnaaDoor
attribute [local go_sem] ZN ZE ZG ZH Zy Zj Zw Zm Zo Zb Zc Zn Zz ZA ZI Zx Zk ZF Zq Zp ZZ ZD Yk put lk Od.v Za Zf Zu Yn Yc Yd Ye Yo Yl DV.isU DV.cells hget ZO Yb ZP Zv splice ZQ mat Ya Ym one_bool one_int one_str one_nilp one_ref one_elem one_nils one_list one_row one_nilm one_map one_nilf one_func one_nili one_ifc one_agg one_tup one_undef one_fresh
attribute [local go_sem ↓] Zl
set_option linter.unusedVariables false
set_option linter.unusedSimpArgs false
set_option maxRecDepth 100000

def dbL : List DV := deBruijn.map (.int .u8)
/-- math/bits.TrailingZeros64 -/
def tzB : XC := .seq (.reg [⟨some 2, .mov (.c (.int .i64 0)), none, false⟩] [0]) (.seq (.seq (.reg [⟨some 3, .mov (.t 0), none, false⟩, ⟨some 4, .bin .eql (.t 3) (.c (.int .u64 0)), none, false⟩] [0, 4]) (.cond (.t 4) (.seq (.reg [⟨some 2, .mov (.c (.int .i64 64)), none, false⟩] [2]) .ret) .skip)) (.seq (.reg [⟨some 5, .mov (.t 0), none, false⟩, ⟨some 6, .mov (.t 0), none, false⟩, ⟨some 7, .un .neg (.t 6), none, false⟩, ⟨some 8, .bin .and (.t 5) (.t 7), none, false⟩, ⟨some 9, .bin .mul (.t 8) (.c (.int .u64 285870213051353865)), none, false⟩, ⟨some 10, .bin .shr (.t 9) (.c (.int .u64 58)), none, false⟩, ⟨some 11, .iaddra 64 1 (.c (.elem (.list 64 [.agg dbL] true) 64 0 0)) (.t 10), none, false⟩, ⟨some 12, .load false 1 (.t 11), none, false⟩, ⟨some 13, .toint .i64 (.t 12), none, false⟩, ⟨some 2, .mov (.t 13), none, false⟩] [2]) .ret))
def tzX : XF := ⟨1, tzB, [.t 2]⟩
def tzH : Yv := fun id => match id with
  | 0 => [0]
  | 1 => [0, 4]
  | 2 => [2]
  | 3 => [2]
  | _ => []
theorem tzCv : cvF Tryd.prog tzH Tryd.f86 = some tzX := by kernel_rfl

def X0 : Nat → Option XK := fun f => match f with
  | 86 => some (.fn tzX)
  | _ => none
def hints0 : Nat → Yv := fun f => match f with
  | 86 => tzH
  | _ => fun _ => []
theorem sound0 : Sound Tryd.prog X0 hints0 where
  mixed := by kernel_rfl
  ext f g h := by unfold X0 at h; split at h <;> first | cases h
  fn f x h := by
    unfold X0 at h
    split at h
    · injection h with h; injection h with h; subst h; exact ⟨Tryd.f86, by kernel_rfl, tzCv⟩
    · cases h

theorem wrap64 (n : Int) (h1 : -9223372036854775808 ≤ n) (h2 : n ≤ 9223372036854775807) : IntKind.i64.wrap n = n := by
  have e : IntKind.i64.wrap n = if n % 18446744073709551616 ≥ 9223372036854775808 then n % 18446744073709551616 - 18446744073709551616 else n % 18446744073709551616 := by
    simp [IntKind.wrap, IntKind.bits, IntKind.signed]
  rw [e]
  split <;> omega
theorem wrapu (n : Nat) : IntKind.u64.wrap (n : Int) = ((n % 18446744073709551616 : Nat) : Int) := by
  simp [IntKind.wrap, IntKind.bits, IntKind.signed]
theorem bits_u : 2 ^ IntKind.u64.bits = 18446744073709551616 := rfl
theorem and_n {a b : Nat} (ha : a < 18446744073709551616) (hb : b < 18446744073709551616) : IntKind.u64.wrap ((a % 2 ^ IntKind.u64.bits &&& b % 2 ^ IntKind.u64.bits : Nat) : Int) = ((a &&& b : Nat) : Int) := by
  rw [bits_u, Nat.mod_eq_of_lt ha, Nat.mod_eq_of_lt hb, wrapu, Nat.mod_eq_of_lt]
  exact Nat.lt_of_le_of_lt Nat.and_le_right hb
/-- A word is a power of two times an odd number. -/
theorem low_split : ∀ (n u : Nat), u ≤ n → 0 < u → ∃ t m, u = 2 ^ t * (2 * m + 1) := by
  intro n
  induction n with
  | zero => intro u h h0; omega
  | succ n ih =>
    intro u h h0
    by_cases e : u % 2 = 1
    · exact ⟨0, u / 2, by omega⟩
    · obtain ⟨t, m, hm⟩ := ih (u / 2) (by omega) (by omega)
      refine ⟨t + 1, m, ?_⟩
      have : u = 2 * (u / 2) := by omega
      rw [this, hm, Nat.pow_succ]
      generalize 2 ^ t = p
      rw [Nat.mul_comm p 2, Nat.mul_assoc]
theorem split_bit (t m j : Nat) : (2 ^ t * (2 * m + 1)).testBit j = (decide (t = j) || (decide (t < j) && m.testBit (j - (t + 1)))) := by
  have h := Nat.testBit_two_pow_mul_add (i := t) (2 * m + 1) (b := 0) (Nat.two_pow_pos t) j
  rw [Nat.add_zero] at h
  rw [h]
  by_cases c : j < t
  · rw [if_pos c]
    have h1 : ¬ t = j := by omega
    have h2 : ¬ t < j := by omega
    simp [h1, h2]
  · rw [if_neg c]
    by_cases d : t = j
    · subst d; simp
    · have h2 : t < j := by omega
      obtain ⟨i, rfl⟩ : ∃ i, j = t + 1 + i := ⟨j - (t + 1), by omega⟩
      rw [show t + 1 + i - t = i + 1 by omega, show t + 1 + i - (t + 1) = i by omega, Nat.testBit_succ, show (2 * m + 1) / 2 = m by omega]
      simp [d, h2]
theorem pred_bit (t m j : Nat) : (2 ^ t * (2 * m + 1) - 1).testBit j = (decide (j < t) || (decide (t < j) && m.testBit (j - (t + 1)))) := by
  have hp := Nat.two_pow_pos t
  have e : 2 ^ t * (2 * m + 1) - 1 = 2 ^ t * (2 * m) + (2 ^ t - 1) := by rw [Nat.mul_add, Nat.mul_one]; omega
  rw [e, Nat.testBit_two_pow_mul_add (i := t) (2 * m) (b := 2 ^ t - 1) (by omega) j]
  by_cases c : j < t
  · rw [if_pos c, Nat.testBit_two_pow_sub_one]; simp [c]
  · rw [if_neg c]
    by_cases d : t = j
    · subst d; simp
    · have h2 : t < j := by omega
      obtain ⟨i, rfl⟩ : ∃ i, j = t + 1 + i := ⟨j - (t + 1), by omega⟩
      rw [show t + 1 + i - t = i + 1 by omega, show t + 1 + i - (t + 1) = i by omega, Nat.testBit_succ, show (2 * m) / 2 = m by omega]
      simp [c, h2]
theorem drop_low_bit (t m j : Nat) : ((2 ^ t * (2 * m + 1)) &&& (2 ^ t * (2 * m + 1) - 1)).testBit j = ((2 ^ t * (2 * m + 1)).testBit j && !decide (t = j)) := by
  rw [Nat.testBit_and, pred_bit, split_bit]
  by_cases d : t = j
  · subst d; simp
  · by_cases c : j < t
    · have h2 : ¬ t < j := by omega
      simp [d, c, h2]
    · simp [d, c]
theorem drop_low_lt {u : Nat} (h : 0 < u) : (u &&& (u - 1)) < u := Nat.lt_of_le_of_lt Nat.and_le_right (by omega)
theorem low_bit {t m : Nat} (h : 2 ^ t * (2 * m + 1) < 18446744073709551616) : (2 ^ t * (2 * m + 1)) &&& (18446744073709551616 - 2 ^ t * (2 * m + 1)) = 2 ^ t := by
  apply Nat.eq_of_testBit_eq
  intro j
  have hp := Nat.two_pow_pos t
  have e : 18446744073709551616 - 2 ^ t * (2 * m + 1) = 2 ^ 64 - (2 ^ t * (2 * m + 1) - 1 + 1) := by
    have : 0 < 2 ^ t * (2 * m + 1) := Nat.mul_pos hp (by omega)
    omega
  rw [e, Nat.testBit_and, Nat.testBit_two_pow_sub_succ (by omega), pred_bit, split_bit, Nat.testBit_two_pow]
  by_cases d : t = j
  · subst d
    have : t < 64 := by
      refine Nat.lt_of_not_le fun hc => ?_
      have : 2 ^ 64 ≤ 2 ^ t := Nat.pow_le_pow_right (by omega) hc
      have : 2 ^ t * 1 ≤ 2 ^ t * (2 * m + 1) := Nat.mul_le_mul_left _ (by omega)
      omega
    simp [this]
  · by_cases c : j < t
    · have h2 : ¬ t < j := by omega
      simp [d, c, h2]
    · have h2 : t < j := by omega
      simp [d, h2]
      exact fun a _ _ => a
theorem split_lt {t m : Nat} (h : 2 ^ t * (2 * m + 1) < 18446744073709551616) : t < 64 := by
  refine Nat.lt_of_not_le fun hc => ?_
  have : 2 ^ 64 ≤ 2 ^ t := Nat.pow_le_pow_right (by omega) hc
  have : 2 ^ t * 1 ≤ 2 ^ t * (2 * m + 1) := Nat.mul_le_mul_left _ (by omega)
  omega
theorem tz_tab : ∀ t : Nat, t < 64 → deBruijn[(2 ^ t * 285870213051353865 % 18446744073709551616) / 288230376151711744]? = some (t : Int) := by decide
/-- The numbers of a word. -/
def wbits (k u : Nat) : List Nat := ((List.range 64).filter fun j => u.testBit j).map fun j => k * 64 + j
theorem wbits_zero (k : Nat) : wbits k 0 = [] := by simp [wbits]
theorem wbits_low (k t m : Nat) (h : t < 64) : wbits k (2 ^ t * (2 * m + 1)) = (k * 64 + t) :: wbits k ((2 ^ t * (2 * m + 1)) &&& (2 ^ t * (2 * m + 1) - 1)) := by
  have hr : List.range 64 = List.range t ++ t :: (List.range (63 - t)).map fun j => t + 1 + j := by
    apply List.ext_getElem?
    intro i
    by_cases c : i < t
    · rw [List.getElem?_append_left (by simpa using c), List.getElem?_range c, List.getElem?_range (by omega)]
    · rw [List.getElem?_append_right (by simp; omega)]
      by_cases d : i = t
      · subst d; simp [h]
      · obtain ⟨l, rfl⟩ : ∃ l, i = t + 1 + l := ⟨i - (t + 1), by omega⟩
        rw [show t + 1 + l - (List.range t).length = l + 1 by simp; omega, List.getElem?_cons_succ]
        by_cases e : l < 63 - t
        · rw [List.getElem?_map, List.getElem?_range e, List.getElem?_range (by omega)]; rfl
        · rw [List.getElem?_eq_none (by simp; omega), List.getElem?_eq_none (by simp; omega)]
  have f1 : (List.range t).filter (fun j => (2 ^ t * (2 * m + 1)).testBit j) = [] := by
    rw [List.filter_eq_nil_iff]
    intro j hj
    rw [List.mem_range] at hj
    rw [split_bit]
    have h1 : ¬ t = j := by omega
    have h2 : ¬ t < j := by omega
    simp [h1, h2]
  have f2 : (List.range t).filter (fun j => ((2 ^ t * (2 * m + 1)) &&& (2 ^ t * (2 * m + 1) - 1)).testBit j) = [] := by
    rw [List.filter_eq_nil_iff]
    intro j hj
    rw [List.mem_range] at hj
    rw [drop_low_bit, split_bit]
    have h1 : ¬ t = j := by omega
    have h2 : ¬ t < j := by omega
    simp [h1, h2]
  have f3 : ((List.range (63 - t)).map fun j => t + 1 + j).filter (fun j => ((2 ^ t * (2 * m + 1)) &&& (2 ^ t * (2 * m + 1) - 1)).testBit j) = ((List.range (63 - t)).map fun j => t + 1 + j).filter (fun j => (2 ^ t * (2 * m + 1)).testBit j) := by
    refine List.filter_congr ?_
    intro j hj
    obtain ⟨l, _, rfl⟩ := List.mem_map.1 hj
    rw [drop_low_bit]
    have h1 : ¬ t = t + 1 + l := by omega
    simp [h1]
  have g1 : (2 ^ t * (2 * m + 1)).testBit t = true := by rw [split_bit]; simp
  have g2 : ((2 ^ t * (2 * m + 1)) &&& (2 ^ t * (2 * m + 1) - 1)).testBit t = false := by rw [drop_low_bit]; simp
  unfold wbits
  rw [hr, List.filter_append, List.filter_append, f1, f2, List.filter_cons, List.filter_cons, g1, g2, f3]
  simp
theorem dbL_at {i : Nat} {t : Int} (h : deBruijn[i]? = some t) : dbL[i]? = some (.int .u8 t) := by
  rw [dbL, List.getElem?_map, h]; rfl
theorem dbL_ld (h : ZY) {i : Nat} {t : Int} (hi : i < 64) (ht : deBruijn[i]? = some t) : Yw h false 1 (.elem (.list 64 [.agg dbL] true) 64 0 i) = some (.int .u8 t) := by
  simp [Yw, vw, DV.cells, Yn, dbL_at ht]
theorem ev1 {call : CallF} {d : Option Nat} {op : XOp} {l : List XOper} {e : Env} {h h' : ZY} {v : DV} (h1 : ZZ call op e h = some (v, h')) : ZN call (⟨d, op, none, false⟩ :: l) e h = ZN call l (put d v e) h' := by
  simp only [ZN, ZE, h1]
theorem run86 {t m : Nat} (h : 2 ^ t * (2 * m + 1) < 18446744073709551616) (H : ZY) : E X0 86 [.int .u64 ((2 ^ t * (2 * m + 1) : Nat) : Int)] H = some (.int .i64 (t : Int), H) := by
  have h1 := low_bit h
  have h2 := split_lt h
  have h3 := tz_tab t h2
  have h4 : 0 < 2 ^ t * (2 * m + 1) := Nat.mul_pos (Nat.two_pow_pos t) (by omega)
  have hPl : 2 ^ t < 18446744073709551616 := Nat.pow_lt_pow_right (by omega : 1 < 2) h2
  generalize hu : 2 ^ t * (2 * m + 1) = u at h h1 h4 ⊢
  obtain ⟨P, hP⟩ : ∃ P, P = 2 ^ t := ⟨_, rfl⟩
  rw [← hP] at h1 h3 hPl
  obtain ⟨N, hN⟩ : ∃ N, N = 18446744073709551616 - u := ⟨_, rfl⟩
  rw [← hN] at h1
  obtain ⟨M, hM⟩ : ∃ M, M = P * 285870213051353865 % 18446744073709551616 := ⟨_, rfl⟩
  rw [← hM] at h3
  obtain ⟨I, hI⟩ : ∃ I, I = M / 288230376151711744 := ⟨_, rfl⟩
  rw [← hI] at h3
  have hIl : I < 64 := by omega
  have w1 : IntKind.u64.wrap (-(u : Int)) = (N : Int) := by
    have e : IntKind.u64.wrap (-(u : Int)) = (-(u : Int)) % 18446744073709551616 := by simp [IntKind.wrap, IntKind.bits, IntKind.signed]
    rw [e]; omega
  have w2 := and_n h (show N < 18446744073709551616 by omega)
  rw [h1] at w2
  have w3 : IntKind.u64.wrap ((P : Int) * 285870213051353865) = (M : Int) := by
    rw [show (P : Int) * 285870213051353865 = ((P * 285870213051353865 : Nat) : Int) by simp, wrapu, hM]
  have w4 : ((M : Int)).fdiv (2 ^ min 58 IntKind.u64.bits) = (I : Int) := by
    rw [show (2 : Int) ^ min 58 IntKind.u64.bits = 288230376151711744 by simp [IntKind.bits], hI, Int.fdiv_eq_ediv_of_nonneg _ (by omega)]
    omega
  have w5 : IntKind.i64.wrap (t : Int) = (t : Int) := wrap64 _ (by omega) (by omega)
  have l1 := dbL_ld H hIl h3
  have c0 : ((u : Int) == 0) = false := beq_false_of_ne (by omega)
  have c1 : ¬ u = 0 := by omega
  have c2 : (0 : Int) ≤ I ∧ (I : Int) < 64 := by omega
  clear h1 h3 hP hM hI hN
  rw [Yt (X := X0) _ tzB _ rfl rfl]; unfold tzB
  rw [Ze (by simp [go_sem]; exact ⟨rfl, rfl⟩)]
  rw [ZB]
  rw [Ze (by simp [go_sem, c0, c1]; exact ⟨rfl, rfl⟩)]
  rw [ZR (by simp [lk, Za, Od.v, c0, c1]; exact rfl)]
  rw [Zp]
  rw [ZJ]
  have hE : ∀ q : Env, lk q 0 = .int .u64 u → ∃ e', ZN (E X0) [⟨some 5, .mov (.t 0), none, false⟩, ⟨some 6, .mov (.t 0), none, false⟩, ⟨some 7, .un .neg (.t 6), none, false⟩, ⟨some 8, .bin .and (.t 5) (.t 7), none, false⟩, ⟨some 9, .bin .mul (.t 8) (.c (.int .u64 285870213051353865)), none, false⟩, ⟨some 10, .bin .shr (.t 9) (.c (.int .u64 58)), none, false⟩, ⟨some 11, .iaddra 64 1 (.c (.elem (.list 64 [.agg dbL] true) 64 0 0)) (.t 10), none, false⟩, ⟨some 12, .load false 1 (.t 11), none, false⟩, ⟨some 13, .toint .i64 (.t 12), none, false⟩, ⟨some 2, .mov (.t 13), none, false⟩] q H = some (e', H) ∧ lk e' 2 = .int .i64 t := by
    intro q hq
    refine ⟨(2, .int .i64 t) :: (13, .int .i64 t) :: (12, .int .u8 t) :: (11, .elem (.list 64 [.agg dbL] true) 64 0 I) :: (10, .int .u64 I) :: (9, .int .u64 M) :: (8, .int .u64 P) :: (7, .int .u64 N) :: (6, .int .u64 u) :: (5, .int .u64 u) :: q, ?_, ?_⟩
    · rw [ev1 (v := .int .u64 u) (h' := H) (by simp [ZZ, ZD, Yk, Od.v, hq])]
      rw [ev1 (v := .int .u64 u) (h' := H) (by simp [ZZ, ZD, Yk, Od.v, hq, put, lk])]
      rw [ev1 (v := .int .u64 N) (h' := H) (by simp [ZZ, ZD, Yk, Od.v, put, lk, Yo, w1])]
      rw [ev1 (v := .int .u64 P) (h' := H) (by simp [ZZ, ZD, Yk, Od.v, put, lk, Yc, Yd, w2])]
      rw [ev1 (v := .int .u64 M) (h' := H) (by simp [ZZ, ZD, Yk, Od.v, put, lk, Yc, Yd, w3])]
      rw [ev1 (v := .int .u64 I) (h' := H) (by simp [ZZ, ZD, Yk, Od.v, put, lk, Yc, Yd, w4])]
      rw [ev1 (v := .elem (.list 64 [.agg dbL] true) 64 0 I) (h' := H) (by simp [ZZ, ZD, Yk, Od.v, put, lk, c2])]
      rw [ev1 (v := .int .u8 t) (h' := H) (by simp [ZZ, ZD, Yk, Od.v, put, lk, l1])]
      rw [ev1 (v := .int .i64 t) (h' := H) (by simp [ZZ, ZD, Yk, Od.v, put, lk, w5])]
      rw [ev1 (v := .int .i64 t) (h' := H) (by simp [ZZ, ZD, Yk, Od.v, put, lk])]
      rfl
    · simp [put, lk]
  obtain ⟨e', he1, he2⟩ := hE (Za [0, 4] [(4, .bool false), (3, .int .u64 u), (0, .int .u64 u)]) (by simp [Za, lk])
  rw [Ze he1, ZT]
  simp [Yf, Yq, Za, lk, fin, fz1, fz0, he2]
end Go.Proofs.YtebjndbigoddnaaDoor
namespace Go.Proofs.YtebjndbigoddnaaDoor
open Go.RowKit
set_option linter.unusedVariables false
set_option linter.unusedSimpArgs false
section
variable {β : Bm} {w w' : World} {h : ZY}
theorem Ext.grow (hI : Inv β w h) (hs : Below w.heap.size w w') : Ext β w h β w' h where
  os := hs.os
  tape := hs.tape
  output := hs.output
  size := hs.size
  len := Nat.le_refl _
  keep b hb _ := hs.block b hb
  old _ _ hn := hn
  new o b hb := .inl hb
  obj o b y hb hy := by
    have hlt := hI.lt o b hb
    cases y with
    | box t cs => exact ⟨hb, cs, hy⟩
    | frz e sz g xs => exact ⟨hb, hy⟩
    | map kt et es => exact ⟨hb, es, hy⟩
    | row e sz g xs => exact ⟨b, g, xs, hb, .inl hy, Nat.le_refl _, fun _ => ⟨rfl, rfl, fun cur hc => ⟨cur, by rw [hs.block _ hlt.2]; exact hc, rfl⟩⟩⟩
theorem Inv.grow (hI : Inv β w h) (hs : Below w.heap.size w w') : Inv β w' h :=
  hI.step (Ext.grow hI hs) (fun o b hb => ⟨(hI.lt o b hb).1, Nat.lt_of_lt_of_le (hI.lt o b hb).2 hs.size⟩) hI.inj hI.tot
    (fun o b x hb hx => .inl ⟨hb, hx, hs.block _ (hI.lt o b hb).2⟩)
theorem Ext.grow1 (hI : Inv β w h) (hs : Below w.heap.size w w') {n : Nat} (hn : w.heap.size ≤ n) (x : HO) : Ext β w h (upd β h.length n) w' (h ++ [x]) where
  os := hs.os
  tape := hs.tape
  output := hs.output
  size := hs.size
  len := by simp
  keep b hb _ := hs.block b hb
  old o ho hn := by rw [Ys _ _ (by omega : o ≠ h.length)]; exact hn
  new o b hb := by
    by_cases ho : o = h.length
    · subst ho; rw [Yp] at hb; injection hb with hb; subst hb; exact .inr hn
    · rw [Ys _ _ ho] at hb; exact .inl hb
  obj o b y hb hy := by
    have hlt := hI.lt o b hb
    have ho : o ≠ h.length := by omega
    have hb' : upd β h.length n o = some b := by rw [Ys _ _ ho]; exact hb
    have hy' : (h ++ [x])[o]? = some y := by rw [List.getElem?_append_left hlt.1]; exact hy
    cases y with
    | box t cs => exact ⟨hb', cs, hy'⟩
    | frz e sz g xs => exact ⟨hb', hy'⟩
    | map kt et es => exact ⟨hb', es, hy'⟩
    | row e sz g xs => exact ⟨b, g, xs, hb', .inl hy', Nat.le_refl _, fun _ => ⟨rfl, rfl, fun cur hc => ⟨cur, by rw [hs.block _ hlt.2]; exact hc, rfl⟩⟩⟩
theorem Inv.grow1 (hI : Inv β w h) (hs : Below w.heap.size w w') {n : Nat} (hn : w.heap.size ≤ n) (hn' : n < w'.heap.size) (x : HO) (hx : OR (upd β h.length n) w' (h ++ [x]) n x) : Inv (upd β h.length n) w' (h ++ [x]) := by
  refine hI.step (Ext.grow1 hI hs hn x) (fun o b hb => ?_) (fun o o' b hb hb' => ?_) (tot_snoc hI.tot _ _) (fun o b y hb hy => ?_)
  · by_cases ho : o = h.length
    · subst ho; rw [Yp] at hb; injection hb with hb; subst hb; exact ⟨by simp, hn'⟩
    · rw [Ys _ _ ho] at hb
      have := hI.lt o b hb
      exact ⟨by simp; omega, by omega⟩
  · by_cases ho : o = h.length
    · subst ho; rw [Yp] at hb; injection hb with hb; subst hb
      by_cases ho' : o' = h.length
      · exact ho'.symm
      · rw [Ys _ _ ho'] at hb'
        have := hI.lt o' _ hb'
        omega
    · rw [Ys _ _ ho] at hb
      by_cases ho' : o' = h.length
      · subst ho'; rw [Yp] at hb'; injection hb' with hb'; subst hb'
        have := hI.lt o _ hb
        omega
      · rw [Ys _ _ ho'] at hb'
        exact hI.inj o o' b hb hb'
  · by_cases ho : o = h.length
    · subst ho; rw [Yp] at hb; injection hb with hb; subst hb
      have : y = x := by simpa using hy.symm
      subst this
      exact .inr hx
    · rw [Ys _ _ ho] at hb
      have hlt := hI.lt o b hb
      rw [List.getElem?_append_left hlt.1] at hy
      exact .inl ⟨hb, hy, hs.block _ hlt.2⟩
end
/-- Data that lead nowhere say the same in any relation. -/
theorem ints_b0 {β : Bm} {w : World} {h : ZY} {k : IntKind} : ∀ {l : List Int} {vs : List Value}, RVs β w h (l.map (.int k)) vs → vs = l.map (Value.int k)
  | [], _, .nil => rfl
  | i :: l, _, .cons hd hs => by
    cases hd
    rw [ints_b0 hs]; rfl
theorem ints_rvs (β : Bm) (w : World) (h : ZY) (k : IntKind) : ∀ (l : List Int), RVs β w h (l.map (.int k)) (l.map (Value.int k))
  | [] => .nil
  | i :: l => .cons (.int k i) (ints_rvs β w h k l)
/-- Tables of numbers lie where they lay. -/
theorem tabs_b0 {β : Bm} {w w' : World} {h : ZY} (ht : Tabs β w h) (hk : ∀ p ∈ tabs, ∃ k l, p.2 = List.map (DV.int k) l) (hs : Below w.heap.size w w') : Tabs B0 w' [] := by
  intro p hp
  obtain ⟨h1, h2⟩ := ht p hp
  refine ⟨?_, h2⟩
  obtain ⟨k, l, hl⟩ := hk p hp
  cases h1 with
  | list hn hc hcc hnr hw hr ha =>
    rename_i vs
    have hf : flat [DV.agg p.2] = l.map (DV.int k) := by simp [flat, DV.cells, hl]
    rw [hf] at hr
    have hv := ints_b0 hr
    subst hv
    refine .list hn hc hcc hnr hw (by rw [hf]; exact ints_rvs _ _ _ _ _) ?_
    intro j v hv
    obtain ⟨a1, a2⟩ := ha j v hv
    refine ⟨fun o ho => (by cases ho), ?_⟩
    have hlt := World.block_lt_of_cell? w _ a2
    rw [World.cell?_of_block (w := w) (hs.block _ hlt)]
    exact a2
end Go.Proofs.YtebjndbigoddnaaDoor
namespace Go.Proofs.YtebjndbigoddnaaDoor
open Go.RowKit Go.Shelf Go.Maps
set_option linter.unusedVariables false
set_option linter.unusedSimpArgs false

attribute [local go_sem] Oper.semAt_some

/-- The numbers of words, from word k on. -/
def bitsOf : List Nat → Nat → List Nat
  | [], _ => []
  | w :: ws, k => wbits k w ++ bitsOf ws (k + 1)

def at0 (ws : List Nat) (k : Nat) : Nat := ws.getD k 0
theorem at0_eq {ws : List Nat} {k : Nat} (h : k < ws.length) : at0 ws k = ws[k] := by simp [at0, List.getD, List.getElem?_eq_getElem h]
theorem bitsOf_take : ∀ (ws : List Nat) (k0 i : Nat), i < ws.length → bitsOf (ws.take (i + 1)) k0 = bitsOf (ws.take i) k0 ++ wbits (k0 + i) (at0 ws i)
  | w :: ws, k0, 0, _ => by simp [bitsOf, at0]
  | w :: ws, k0, i + 1, h => by
    simp only [List.take_succ_cons, bitsOf]
    rw [bitsOf_take ws (k0 + 1) i (by simpa using h), show k0 + 1 + i = k0 + (i + 1) by omega, List.append_assoc]
    simp [at0]
theorem bitsOf_take_le (ws : List Nat) (k0 i : Nat) (h : i ≤ ws.length) : (bitsOf (ws.take i) k0).length ≤ (bitsOf ws k0).length := by
  induction ws generalizing k0 i with
  | nil => simp
  | cons w ws ih =>
    cases i with
    | zero => simp [bitsOf]
    | succ i =>
      simp only [List.take_succ_cons, bitsOf, List.length_append]
      have := ih (k0 + 1) i (by simpa using h)
      omega

/-- TrailingZeros64. -/
theorem tz_in {t m : Nat} (h : 2 ^ t * (2 * m + 1) < 18446744073709551616) (n : Nat) (W : World) (hT : Tabs B0 W []) :
    CallsIn Fence.wide n Tryd.prog 86 #[.int .u64 ((2 ^ t * (2 * m + 1) : Nat) : Int)] W fun e W' => e = .returned (.int .i64 (t : Int)) ∧ W.grownBy W' none := by
  have h1 := (E_ok sound0 86 [.int .u64 ((2 ^ t * (2 * m + 1) : Nat) : Int)] [] _ [] B0 W _ (run86 h []) (inv0 W hT) (.cons (.int _ _) .nil)).2
  refine (callsIn_wide.2 h1).mono ?_
  rintro e W' ⟨v, β', rfl, hx, -, hr⟩
  cases hr
  exact ⟨rfl, hx.os, hx.tape, hx.output, hx.size, fun k hk _ => hx.keep k hk (fun o ho => (by cases ho))⟩

/-- Where words lie. -/
def WordsAt (W : World) (a : Addr) (ws : List Nat) : Prop := ∀ j, j < ws.length → W.cell? (a.add j) = some (.int .u64 (at0 ws j : Nat))

set_option maxRecDepth 100000 in
set_option maxHeartbeats 2000000 in
theorem all1_in (n : Nat) (hn : 1 ≤ n) (l Bs n₀ : Nat) (a : Addr) (cap : Nat) (ws : List Nat) (hreach : ws.length * 8 ≤ 140737488351232) (hb : 0 < ws.length → a.block < n₀) (hw : ∀ w ∈ ws, w < 18446744073709551616) (J Jx : List Nat → World → Prop)
    (hY : ∀ pre x W, J pre W → pre.length < (bitsOf ws 0).length → YieldAt Fence.wide (n - 1) Tryd.prog l #[.int .i64 (x : Nat)] W fun e W' =>
      (e = .returned (.bool true) ∧ J (pre ++ [x]) W' ∧ Below n₀ W W') ∨ (e = .returned (.bool false) ∧ Jx (pre ++ [x]) W'))
    (W : World) (hJ : AbidesFrom W.heap.size J) (hn0 : n₀ ≤ W.heap.size) (hT : ∀ W', Below n₀ W W' → Tabs B0 W' [])
    (hBs : W.cell? ⟨Bs, 0, none⟩ = some (.slice (some a) ws.length cap)) (hc : WordsAt W a ws) (h0 : J [] W) :
    CallsIn Fence.wide n Tryd.prog 85 #[.func (.yield l) #[] #[], .pointer (some ⟨Bs, 0, none⟩)] W fun e W' => (∃ v, e = .returned v) ∧
      ((∃ ys, ys = bitsOf ws 0 ∧ J ys W') ∨ (∃ pre, Jx pre W')) := by
  have hro : Fence.wide.round = none := rfl
  refine callsIn_of_wp Tryd.func85 rfl trivial ?_ hro
  simp only [Tryd.ntmps85, List.size_toArray, List.length_cons, List.length_nil, Nat.reduceAdd, Nat.reduceSub, Array.replicate_succ, Array.replicate_zero, List.push_toArray, List.append_toArray, List.nil_append, List.cons_append]
  gi_wp2
  gi_loopw [8] (fun p wr => ∃ i : Nat, i ≤ ws.length ∧ p = .int .i64 i ∧ J (bitsOf (ws.take i) 0) wr ∧ Below n₀ W wr)
    (fun p _ => ws.length - (intOf p).toNat)
  case atStart => exact ⟨0, Nat.zero_le _, rfl, by simpa [bitsOf] using h0, Below.refl _ _⟩
  case round =>
    obtain ⟨i, hi, rfl, hJs, hnx⟩ := hrel
    by_cases hlt : i < ws.length
    · have hcx : wr.cell? (a.add i) = some (.int .u64 (at0 ws i : Nat)) := by
        rw [World.cell?_of_block (w := W) (by rw [add_block]; exact hnx.block _ (hb (by omega)))]
        exact hc i hlt
      have hul : at0 ws i < 18446744073709551616 := by rw [at0_eq hlt]; exact hw _ (List.getElem_mem _)
      generalize hu : at0 ws i = u at hcx hul
      have hlen := bitsOf_take_le ws 0 (i + 1) (by omega)
      have hbits := bitsOf_take ws 0 i hlt
      rw [hu, Nat.zero_add] at hbits
      gi_wp2
      clear hcx
      gi_loopw [4] (fun p wq => ∃ (v : Nat) (pre : List Nat), p = .int .u64 v ∧ v < 18446744073709551616 ∧ bitsOf (ws.take (i + 1)) 0 = pre ++ wbits i v ∧ J pre wq ∧ Below n₀ W wq)
        (fun p _ => (intOf p).toNat)
      case atStart => exact ⟨u, _, rfl, hul, hbits, hJs, hnx⟩
      case round =>
        clear hJs hnx hbits
        obtain ⟨v, pre, rfl, hv, hbits, hJs, hnx⟩ := hrel
        by_cases hv0 : v = 0
        · subst hv0
          rw [wbits_zero, List.append_nil] at hbits
          gi_wp2
          go_roundw
          case rel => exact ⟨i + 1, by omega, by simp, by rw [hbits]; exact hJs, hnx⟩
          case measure => simp [intOf]; omega
        · obtain ⟨t, m, hsp⟩ := low_split v v (Nat.le_refl _) (by omega)
          have ht64 : t < 64 := split_lt (by rw [← hsp]; exact hv)
          have hlow := wbits_low i t m ht64
          rw [← hsp] at hlow
          have hv' := drop_low_lt (u := v) (by omega)
          have htz := fun w2 => tz_in (t := t) (m := m) (by rw [← hsp]; exact hv) (n - 1) w2
          rw [← hsp] at htz
          clear hsp
          rw [hlow] at hbits
          have hlen' : pre.length < (bitsOf ws 0).length := by
            rw [hbits] at hlen; simp at hlen; omega
          gi_wp2
          refine ⟨trivial, (htz _ (hT _ hnx)).mono ?_⟩
          rintro e w2 ⟨rfl, hg⟩
          have hJ2 := hJ _ _ _ none hJs hg (fun r e => by cases e)
          have hnx2 : Below n₀ wr w2 := ⟨hg.os, hg.tape, hg.output, hg.size, fun k hk => hg.block k (by have := hnx.size; omega) (fun e => by cases e)⟩
          obtain ⟨fn, tmps, assign, body, hy, hR⟩ := hY pre (i * 64 + t) w2 hJ2 hlen'
          simp only [Int.natCast_add, Int.natCast_mul, Int.cast_ofNat_Int] at hy
          dsimp only
          gi_wp2
          refine hR.mono ?_
          rintro e W3 (⟨rfl, hJ3, hk3⟩ | ⟨rfl, hJx3⟩)
          · dsimp only
            have w1 : IntKind.u64.wrap ((v : Int) - 1) = ((v - 1 : Nat) : Int) := by
              rw [show (v : Int) - 1 = ((v - 1 : Nat) : Int) by omega, wrapu, Nat.mod_eq_of_lt (by omega)]
            have w2 := and_n hv (show v - 1 < 18446744073709551616 by omega)
            gi_wp2
            have w3 : bits BinOp.and IntKind.u64 (v : Int) ((v - 1 : Nat) : Int) = ((v &&& (v - 1) : Nat) : Int) := by
              simp only [bits]
              simpa using w2
            go_roundw
            case rel => exact ⟨v &&& (v - 1), pre ++ [i * 64 + t], by simp [w3], by omega, by rw [hbits]; simp, hJ3, (hnx.trans hnx2).trans hk3⟩
            case measure => simp [intOf, w3]; omega
          · dsimp only
            gi_wp2
            refine bodyPost_ret (results_none rfl _ _ _) rfl ?_
            exact ⟨⟨_, rfl⟩, .inr ⟨_, hJx3⟩⟩
    · obtain rfl : i = ws.length := by omega
      gi_wp2
      go_end0
      exact ⟨⟨_, rfl⟩, .inl ⟨_, by simp, hJs⟩⟩

set_option maxRecDepth 100000 in
set_option maxHeartbeats 2000000 in
/-- A set that has no words. -/
theorem all1_nil_in (n : Nat) (hn : 1 ≤ n) (l Bs : Nat) (J : List Nat → World → Prop) (W : World) (hBs : W.cell? ⟨Bs, 0, none⟩ = some (.slice none 0 0)) (h0 : J [] W) :
    CallsIn Fence.wide n Tryd.prog 85 #[.func (.yield l) #[] #[], .pointer (some ⟨Bs, 0, none⟩)] W fun e W' => (∃ v, e = .returned v) ∧ J [] W' := by
  have hro : Fence.wide.round = none := rfl
  refine callsIn_of_wp Tryd.func85 rfl trivial ?_ hro
  simp only [Tryd.ntmps85, List.size_toArray, List.length_cons, List.length_nil, Nat.reduceAdd, Nat.reduceSub, Array.replicate_succ, Array.replicate_zero, List.push_toArray, List.append_toArray, List.nil_append, List.cons_append]
  gi_wp2
  gi_loopw [8] (fun p wr => p = .int .i64 0 ∧ J [] wr) (fun _ _ => 0)
  case atStart => exact ⟨rfl, h0⟩
  case round =>
    obtain ⟨rfl, hJs⟩ := hrel
    gi_wp2
    go_end0
    exact ⟨⟨_, rfl⟩, hJs⟩

set_option maxHeartbeats 1000000 in
/-- (Set).All: the receiver is boxed. -/
theorem all_in (n : Nat) (sv : Value) (hs : sv.oneCell' = true) (w : World) :
    CallsIn Fence.wide n Tryd.prog 51 #[.agg #[sv]] w fun e w' => e = .returned (.func (.func 85) #[] #[.pointer (some ⟨w.heap.size, 0, none⟩)]) ∧ w' = w.alloc (.cells #[sv] 30) := by
  refine callsIn_of_wp Tryd.func51 rfl trivial ?_ rfl
  simp only [Tryd.ntmps51, List.size_toArray, List.length_cons, List.length_nil, Nat.reduceAdd, Nat.reduceSub, Array.replicate_succ, Array.replicate_zero, List.push_toArray, List.append_toArray, List.nil_append, List.cons_append]
  gi_wp2
  go_ret
  exact ⟨rfl, rfl⟩

/-- What lies in a set's field. -/
def SetAt (n₀ : Nat) (W : World) (sv : Value) (ws : List Nat) : Prop :=
  (sv = .slice none 0 0 ∧ ws = []) ∨ ∃ a cap, sv = .slice (some a) ws.length cap ∧ (0 < ws.length → a.block < n₀) ∧ WordsAt W a ws
theorem SetAt.below {n₀ : Nat} {A B : World} (h : Below n₀ A B) {sv : Value} {ws : List Nat} (hs : SetAt n₀ A sv ws) : SetAt n₀ B sv ws := by
  rcases hs with hs | ⟨a, cap, h1, h2, h3⟩
  · exact .inl hs
  · refine .inr ⟨a, cap, h1, h2, fun j hj => ?_⟩
    rw [World.cell?_of_block (w := A) (by rw [add_block]; exact h.block _ (h2 (by omega)))]
    exact h3 j hj
/-- What All hands back is an iterator over the set's numbers. -/
theorem all_stops (n : Nat) (hn : 1 ≤ n) (Bs n₀ : Nat) (sv : Value) (ws : List Nat) (hreach : ws.length * 8 ≤ 140737488351232) (hw : ∀ w ∈ ws, w < 18446744073709551616) (w : World) (hBs : Bs < w.heap.size) (hn₀ : n₀ ≤ w.heap.size)
    (hT : ∀ W', Below n₀ w W' → Tabs B0 W' []) (hc : w.cell? ⟨Bs, 0, none⟩ = some sv) (hS : SetAt n₀ w sv ws) :
    SeqStopsK Fence.wide n Tryd.prog 85 #[.pointer (some ⟨Bs, 0, none⟩)] (fun x : Nat => #[Value.int .i64 (x : Nat)]) (Below n₀) (fun ys => ys = bitsOf ws 0) (fun _ => True) (bitsOf ws 0).length w := fun l J Jx W hW hJ _ hY h0 => by
  have hc' := (hW.cell (p := ⟨Bs, 0, none⟩) hBs).trans hc
  rcases hS.below (hW.mono hn₀) with ⟨rfl, rfl⟩ | ⟨a, cap, rfl, h2, h3⟩
  · exact (all1_nil_in n hn l Bs J W hc' h0).mono fun e W' ⟨he, hj⟩ => ⟨he, .inl ⟨_, rfl, hj⟩⟩
  · refine (all1_in n hn l Bs n₀ a cap ws hreach h2 hw J Jx hY W hJ (Nat.le_trans hn₀ hW.size) (fun W' hW' => hT _ ((hW.mono hn₀).trans hW')) hc' h3 h0).mono ?_
    rintro e W' ⟨he, h | ⟨pre, hj⟩⟩
    · exact ⟨he, .inl h⟩
    · exact ⟨he, .inr ⟨pre, trivial, hj⟩⟩
theorem info3' : (Tryd.prog.info? 3).map (fun i => (i.zero, i.size, i.bytes)) = some (some (.int .i64 0), 1, 8) := by kernel_rfl

theorem und72 : Tryd.prog.underlying 87 = some (.func #[77] #[] false) := by kernel_rfl
theorem fn_nil (f : Nat) (v : Value) (w : World) : (binOp .eql 87 (.func (.func f) #[] #[v]) .nilFunc).run Tryd.prog w = .ok (.bool false) w :=
  (good_eqk (β := B0) (h := []) (kd := 4) (neg := false) (x := .func f [] [.undef]) (y := .nilf) (ox := .tmp 0) (oy := .tmp 0) (RV.func .nil (.cons (.undef v) .nil)) .nilf rfl und72 ⟨_, _, _, rfl⟩ (by intro h; cases h)).2
abbrev ints (l : List Nat) : List Value := l.map fun x => Value.int .i64 (x : Nat)
theorem not_box {W : World} {n₀ M : Nat} {v : Value} {pre : List Nat} (hM : Boxed W M 3 (.int .i64 (-1))) (hr : W.ownsRow n₀ 3 1 v pre.length (ints pre)) (hnil : v = .slice none 0 0 ↔ pre = []) : some M ≠ v.ownBlock := by
  rcases hr.2 with ⟨rfl, _⟩ | ⟨g, cap, cur, rfl, _, hgb, hcap, _, hsz, htk⟩
  · simp [Value.ownBlock]
  · intro e
    obtain rfl : M = g := by simpa [Value.ownBlock] using e
    have hc := (show W.heap[M]? = _ from hM).symm.trans hgb
    simp only [Option.some.injEq, Obj.cells.injEq] at hc
    obtain ⟨rfl, -⟩ := hc
    match pre, hnil, hcap, htk with
    | [], hnil, _, _ => exact absurd (hnil.2 rfl) (by simp)
    | x :: pre, _, _, htk =>
      simp [ints] at htk
      try (have := htk.1; omega)
set_option maxRecDepth 100000 in
set_option maxHeartbeats 2000000 in
theorem list_in (sv : Value) (hs1 : sv.oneCell' = true) (ws : List Nat) (hreach : (bitsOf ws 0).length * 8 ≤ 140737488351232) (hreach' : ws.length * 8 ≤ 140737488351232) (hmx : (bitsOf ws 0).length ≤ maxLen) (hw : ∀ w ∈ ws, w < 18446744073709551616) (w : World)
    (hT : ∀ W', Below w.heap.size w W' → Tabs B0 W' []) (hS : SetAt w.heap.size w sv ws) :
    CallsIn Fence.wide 9 Tryd.prog 18 #[.agg #[sv], .int .i64 (-1)] w fun e W' => ∃ v, e = .returned v ∧ W'.ownsRow w.heap.size 3 1 v (bitsOf ws 0).length (ints (bitsOf ws 0)) ∧ (v = .slice none 0 0 ↔ bitsOf ws 0 = []) ∧ Below w.heap.size w W' := by
  have hro : Fence.wide.round = none := rfl
  obtain ⟨i0, hi, hz0, hz1, hz2⟩ := info_parts info3'
  refine callsIn_of_wp_marks Tryd.func18 rfl trivial ?_ hro
  simp only [Tryd.ntmps18, List.size_toArray, List.length_cons, List.length_nil, Nat.reduceAdd, Nat.reduceSub, Array.replicate_succ, Array.replicate_zero, List.push_toArray, List.append_toArray, List.nil_append, List.cons_append]
  gi_wp2
  refine ⟨trivial, (all_in 8 sv hs1 _).mono ?_⟩
  rintro e w2 ⟨rfl, rfl⟩
  dsimp only
  gi_wp2
  obtain ⟨W0, hW0⟩ : ∃ W0, (((w.alloc (.cells #[sv] 30)).alloc (.cells #[.int .i64 (-1)] 3)).alloc (.cells #[.slice none 0 0] 27)).alloc (.cells #[sv] 30) = W0 := ⟨_, rfl⟩
  have hsz : W0.heap.size = w.heap.size + 4 := by rw [← hW0]; simp
  have bM : Boxed W0 (w.heap.size + 1) 3 (.int .i64 (-1)) := by
    rw [← hW0]
    have := Boxed.new (w.alloc (.cells #[sv] 30)) 3 (.int .i64 (-1))
    rw [World.size_alloc] at this
    exact (this.alloc _).alloc _
  have bO : Boxed W0 (w.heap.size + 2) 27 (.slice none 0 0) := by
    rw [← hW0]
    have := Boxed.new ((w.alloc (.cells #[sv] 30)).alloc (.cells #[.int .i64 (-1)] 3)) 27 (.slice none 0 0)
    rw [World.size_alloc, World.size_alloc] at this
    exact this.alloc _
  have bS : Boxed W0 (w.heap.size + 3) 30 sv := by
    rw [← hW0]
    have := Boxed.new (((w.alloc (.cells #[sv] 30)).alloc (.cells #[.int .i64 (-1)] 3)).alloc (.cells #[.slice none 0 0] 27)) 30 sv
    rw [World.size_alloc, World.size_alloc, World.size_alloc] at this
    exact this
  have hB0 : Below w.heap.size w W0 := by
    rw [← hW0]
    exact ((((Below.refl _ w).alloc (Nat.le_refl _) _).alloc (by simp) _).alloc (by simp; omega) _).alloc (by simp; omega) _
  simp only [World.size_alloc, Nat.add_assoc, Nat.reduceAdd]
  rw [hW0, fn_nil]
  gi_wp2
  refine wpIn_rangeFunc_ownG hro (by omega) (gf := 85) (lb := #[.pointer (some ⟨w.heap.size + 3, 0, none⟩)]) rfl trivial (enters_of Tryd.func85 (by kernel_rfl) rfl)
    (all_stops 8 (by omega) (w.heap.size + 3) w.heap.size sv ws hreach' hw _ (by omega) (by omega) (fun W' hW' => hT W' (hB0.trans hW')) bS.cell (hS.below hB0)) belowK_t (belowK_b (by omega)) (Below.refl _ _) (fun _ => rfl)
    (fun pre W => ((∃ v, Boxed W (w.heap.size + 2) 27 v ∧ W.ownsRow w.heap.size 3 1 v pre.length (ints pre) ∧ (v = .slice none 0 0 ↔ pre = [])) ∧ Boxed W (w.heap.size + 1) 3 (.int .i64 (-1))) ∧ Below w.heap.size w W)
    (fun _ _ _ => False)
    (OwnFrom.and (OwnFrom.and (Own.from (holdsRow_own w.heap.size (w.heap.size + 2) 27 3 1 (fun pre : List Nat => pre.length) (fun pre => ints pre) (fun pre v => v = .slice none 0 0 ↔ pre = [])) _)
      (fun s A B row hs hg hr => hs.kept hg (fun e' => by
        obtain ⟨hr1, o, ho, hc⟩ := hr _ e'.symm
        omega))) (ownFrom_below (Nat.le_refl _) (by omega)))
    (fun _ _ _ _ _ hs _ _ => hs)
    ⟨⟨⟨_, bO, World.ownsRow_nil _ _ _ _, by simp⟩, bM⟩, hB0⟩
    (fun x => { tmps := #[.agg #[sv], .int .i64 (-1), .pointer (some ⟨w.heap.size, 0, none⟩), .pointer (some ⟨w.heap.size + 1, 0, none⟩), .slice none 0 0, .pointer (some ⟨w.heap.size + 2, 0, none⟩), .func (.func 85) #[] #[.pointer (some ⟨w.heap.size + 3, 0, none⟩)], .int .i64 (x : Nat), .int .i64 (-1), .bool false, undef, .agg #[sv], .func (.func 85) #[] #[.pointer (some ⟨w.heap.size + 3, 0, none⟩)], .func (.func 85) #[] #[.pointer (some ⟨w.heap.size + 3, 0, none⟩)], .bool false, undef, .func (.func 85) #[] #[.pointer (some ⟨w.heap.size + 3, 0, none⟩)], .int .i64 (x : Nat), undef, undef, undef, undef, undef, undef, undef, undef, undef], defers := [] }) ?assign ?body ?done ?stop
  case assign =>
    intro l x W K hK
    gi_wp2
    exact hK
  case body =>
    rintro l pre x W ⟨⟨⟨v, hv, hrow, hnil⟩, hM⟩, hB⟩ hlt
    have hc := hv.cell
    have hcM := hM.cell
    gi_wp2_with (gi_at_builtin; refine wpListIn_append_own _ rfl _ _ 27 rfl w.heap.size 3 i0 (.int .i64 0) 1 8 Tryd.underlying27 hi hz0 hz1 hz2 rfl (by decide) _ _ _ rfl (hrow.alloc _) ⟨W.heap.size, 0, none⟩ 1 1 [.int .i64 (x : Nat)] rfl rfl (cell_one_new _ _ _) (by simp [Value.oneCell']) (by omega) (by omega) (by have := hB.size; simp; omega) ?_; intro v' w1 hown' hgrow _; obtain ⟨g', cap', rfl⟩ := ownsRow_succ hown'; obtain ⟨hv1, hv2, hr2, hk2, hb2⟩ := hv.appended (by decide) hrow hB.size (by omega) hown' hgrow; have hc1 := hv1.cell; have hf1 := hv1.frozen; have hc2 := hv2.cell; have hM2 := ((hM.alloc _).kept hgrow (not_box hM hrow hnil)).kept (grownBy_setCell' w1 (w.heap.size + 2) (.slice (some ⟨g', 0, none⟩) (pre.length + 1) cap')) (by simp); have hcM2 := hM2.cell)
    all_goals first
      | (rename_i he; exact absurd (eq_of_beq he) (by omega))
      | exact ⟨hk2.from _, hb2, ⟨⟨_, hv2, by simpa using hr2, by simp⟩, hM2⟩, hB.trans hb2⟩
  case done =>
    rintro D ys W hD rfl ⟨⟨⟨v, hv, hrow, hnil⟩, hM⟩, hB⟩ hK
    have hc := hv.cell
    gi_wp2
    refine ⟨by simp, .inl ⟨_, _, rfl, run_takeDeferred hK, ?_⟩⟩
    exact ⟨_, results_tmp rfl _ _ _, v, rfl, ownsRow_putObj hrow _ hK rfl, hnil, hB.trans (belowK_b (w := w) (Nat.le_refl _) W D _ _ (by omega) hK rfl rfl)⟩
  case stop =>
    rintro D c pre W _ _ h _
    exact h.elim

theorem wbits_len (k u : Nat) : (wbits k u).length ≤ 64 := by
  unfold wbits
  rw [List.length_map]
  exact Nat.le_trans (List.length_filter_le _ _) (by simp)
theorem bitsOf_len : ∀ (ws : List Nat) (k : Nat), (bitsOf ws k).length ≤ 64 * ws.length
  | [], _ => by simp [bitsOf]
  | w :: ws, k => by
    have h1 := wbits_len k w
    have h2 := bitsOf_len ws (k + 1)
    simp only [bitsOf, List.length_append, List.length_cons]
    omega
def wordOf : DV → Option Nat
  | .int .u64 n => if 0 ≤ n ∧ n < 18446744073709551616 then some n.toNat else none
  | _ => none
theorem wordOf_eq {d : DV} {n : Nat} (h : wordOf d = some n) : d = .int .u64 (n : Nat) ∧ n < 18446744073709551616 := by
  unfold wordOf at h
  split at h
  · split at h
    · injection h with h
      exact ⟨by congr 1; omega, by omega⟩
    · cases h
  · cases h
def wordsOf : List DV → Option (List Nat)
  | [] => some []
  | d :: l => match wordOf d, wordsOf l with
    | some n, some ns => some (n :: ns)
    | _, _ => none
theorem wordsOf_eq : ∀ {l : List DV} {ns : List Nat}, wordsOf l = some ns → l = ns.map (fun n : Nat => DV.int .u64 n) ∧ ∀ n ∈ ns, n < 18446744073709551616
  | [], _, h => by injection h with h; subst h; exact ⟨rfl, by simp⟩
  | d :: l, ns, h => by
    simp only [wordsOf] at h
    split at h
    · rename_i n ns' h1 h2
      injection h with h; subst h
      obtain ⟨a1, a2⟩ := wordOf_eq h1
      obtain ⟨b1, b2⟩ := wordsOf_eq h2
      subst a1; subst b1
      exact ⟨rfl, by
        intro m hm
        rcases List.mem_cons.1 hm with rfl | hm
        · exact a2
        · exact b2 m hm⟩
    · cases h
def gList : List DV → ZY → Option (DV × ZY)
  | [.agg [W], .int .i64 most], h => match vw h 1 W with
    | some xs => match wordsOf xs with
      | some ns => if ns.length ≤ 100000 ∧ most = -1 then
          some (if bitsOf ns 0 = [] then .nils else .fresh 3 1 ((bitsOf ns 0).map fun (n : Nat) => .int .i64 n), h) else none
      | none => none
    | none => none
  | _, _ => none
theorem tabs_int : ∀ p ∈ tabs, ∃ k l, p.2 = List.map (DV.int k) l := by
  intro p hp
  simp only [tabs, List.mem_singleton] at hp
  subst hp
  exact ⟨_, _, rfl⟩
theorem setAt_of {β : Bm} {w : World} {h : ZY} (hI : Inv β w h) {W : DV} {v : Value} {ns : List Nat} (hr : RV β w h W v) (hv : vw h 1 W = some (ns.map fun n : Nat => DV.int .u64 n)) : SetAt w.heap.size w v ns := by
  obtain ⟨A, n, cap, rfl⟩ := vw_slice hr hv
  obtain ⟨h1, h2, h3⟩ := vw_cells hI hr hv
  rw [List.length_map] at h1
  cases A with
  | none =>
    cases hr with
    | nils =>
      simp [vw] at hv
      exact .inl ⟨rfl, hv⟩
    | undef => simp [vw] at hv
  | some a =>
    subst h1
    refine .inr ⟨a, cap, rfl, ?_, ?_⟩
    · intro h0
      rcases h3 with h3 | ⟨a', vs, ha, hrv, hc⟩
      · simp at h3; subst h3; simp at h0
      · injection ha with ha; subst ha
        obtain ⟨x, hx⟩ : ∃ x, vs[0]? = some x := by
          have hl := hrv.len
          rw [flat_length (sz := 1) (fun x hx => (h2 x hx).1)] at hl
          simp at hl
          exact ⟨vs[0]'(by omega), List.getElem?_eq_getElem (by omega)⟩
        have := World.block_lt_of_cell? w _ (hc 0 x hx)
        rwa [add_block] at this
    · intro j hj
      rcases h3 with h3 | ⟨a', vs, ha, hrv, hc⟩
      · simp at h3; subst h3; simp at hj
      · injection ha with ha; subst ha
        have hfl : flat (ns.map fun n : Nat => DV.int .u64 n) = (ns.map Int.ofNat).map (DV.int .u64) := by
          rw [List.map_map]
          generalize ns = l
          induction l with
          | nil => rfl
          | cons n l ih => simp only [List.map_cons, flat, List.flatMap_cons] at ih ⊢; rw [ih]; rfl
        rw [hfl] at hrv
        have := ints_b0 hrv
        subst this
        refine hc j _ ?_
        rw [List.getElem?_map, List.getElem?_map, List.getElem?_eq_getElem hj, at0_eq hj]
        rfl
theorem listOk : CallOk1 Tryd.prog 18 gList := by
  intro args h d h' β w vs hg hI hR
  unfold gList at hg
  split at hg
  case h_2 => cases hg
  rename_i W most
  cases hR with
  | cons hd hs =>
  cases hd with
  | agg hra =>
  cases hra with
  | cons hW hnil =>
  cases hnil
  cases hs with
  | cons hm hnil =>
  cases hnil
  cases hm
  rename_i sv
  split at hg
  case h_2 => cases hg
  rename_i xs hvw
  split at hg
  case h_2 => cases hg
  rename_i ns hns
  split at hg
  case isFalse => cases hg
  rename_i hc
  obtain ⟨hlen, rfl⟩ := hc
  injection hg with hg
  rw [Prod.mk.injEq] at hg
  obtain ⟨hd, rfl⟩ := hg
  obtain ⟨hxs, hlt⟩ := wordsOf_eq hns
  subst hxs
  have hS := setAt_of hI hW hvw
  have hbl := bitsOf_len ns 0
  have hs1 : sv.oneCell' = true := by
    rcases hS with ⟨rfl, _⟩ | ⟨a, cap, rfl, _⟩ <;> rfl
  have hT : ∀ W', Below w.heap.size w W' → Tabs B0 W' [] := fun W' hW' => tabs_b0 hI.tab tabs_int hW'
  refine ⟨enters_of Tryd.func18 (by kernel_rfl) rfl _ _, ?_⟩
  refine (callsIn_wide.1 (list_in sv hs1 ns (by omega) (by omega) (by unfold maxLen; omega) hlt w hT hS)).mono ?_
  rintro e w' ⟨v', rfl, hrow, hnil, hB⟩
  by_cases hb : bitsOf ns 0 = []
  · rw [if_pos hb] at hd
    subst hd
    have := hnil.2 hb
    subst this
    exact ⟨_, β, rfl, Ext.grow hI hB, Inv.grow hI hB, .nils⟩
  · rw [if_neg hb] at hd
    subst hd
    rcases hrow.2 with ⟨h1, _⟩ | ⟨g, cap, cur, rfl, hg0, hgb, hcap, hmax, hsz, htk⟩
    · exact absurd (hnil.1 h1) hb
    · generalize hl : bitsOf ns 0 = l at *
      have hglt : g < w'.heap.size := (Array.getElem?_eq_some_iff.1 hgb).1
      have hOR : OR (upd β h.length g) w' (h ++ [.row 3 1 0 (l.map fun n : Nat => DV.int .i64 n)]) g (.row 3 1 0 (l.map fun n : Nat => DV.int .i64 n)) := by
        refine ⟨cur, cap, hgb, hsz, by simpa using hcap, hmax, by omega, ?_, ?_⟩
        · intro x hx
          obtain ⟨n, _, rfl⟩ := List.mem_map.1 hx
          simp [Wc, DV.cells, DV.one]
        · have hfl : flat (l.map fun n : Nat => DV.int .i64 n) = (l.map Int.ofNat).map (DV.int .i64) := by
            rw [List.map_map]
            generalize l = l
            induction l with
            | nil => rfl
            | cons n l ih => simp only [List.map_cons, flat, List.flatMap_cons] at ih ⊢; rw [ih]; rfl
          rw [hfl, List.length_map, htk]
          have := ints_rvs (upd β h.length g) w' (h ++ [.row 3 1 0 (l.map fun n : Nat => DV.int .i64 n)]) .i64 (l.map Int.ofNat)
          have e2 : ints l = (l.map Int.ofNat).map (Value.int .i64) := by rw [List.map_map]; rfl
          rw [e2]
          exact this
      refine ⟨_, upd β h.length g, rfl, Ext.grow1 hI hB hg0 _, Inv.grow1 hI hB hg0 hglt _ hOR, ?_⟩
      have hel : (h ++ [HO.row 3 1 0 (l.map fun n : Nat => DV.int .i64 n)])[h.length]? = some (.row 3 1 0 (l.map fun n : Nat => DV.int .i64 n)) := by simp
      show RV (upd β h.length g) w' (h ++ [HO.row 3 1 0 (l.map fun n : Nat => DV.int .i64 n)]) (.row h.length 0 0 (l.map fun n : Nat => DV.int .i64 n).length false) _
      rw [List.length_map]
      exact RV.row (Yp _ _ _) hcap (by intro hf; cases hf) (.inl hel) (Nat.le_refl _) (fun _ => ⟨by simp, fun _ => by simp, fun _ => ⟨rfl, fun _ _ => ⟨cur, hgb, hsz⟩⟩⟩)
end Go.Proofs.YtebjndbigoddnaaDoor
