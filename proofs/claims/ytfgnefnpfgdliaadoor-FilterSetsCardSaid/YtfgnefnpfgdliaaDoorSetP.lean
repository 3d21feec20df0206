/- Plain facts: filters one behind the other; sets of the same numbers have the same words. -/
import Derived.Test.YtfgnefnpfgdliaaDoorFltP
namespace Go.Proofs.YtfgnefnpfgdliaaDoor
set_option linter.unusedVariables false
set_option linter.unusedSimpArgs false
theorem at_ext {ws ts : List Nat} (bw : WB ws) (bt : WB ts) (h : ∀ i, bit ws i = bit ts i) (k : Nat) : at_ ws k = at_ ts k := by
  apply Nat.eq_of_testBit_eq
  intro j
  by_cases hj : j < 64
  · have := h (64 * k + j)
    simp only [bit] at this
    rwa [show (64 * k + j) / 64 = k by omega, show (64 * k + j) % 64 = j by omega] at this
  · have hp : (18446744073709551616 : Nat) ≤ 2 ^ j := by
      rw [show (18446744073709551616 : Nat) = 2 ^ 64 from rfl]
      exact Nat.pow_le_pow_right (by omega) (by omega)
    rw [Nat.testBit_lt_two_pow (Nat.lt_of_lt_of_le (bw.at k) hp), Nat.testBit_lt_two_pow (Nat.lt_of_lt_of_le (bt.at k) hp)]
/-- A node behind n others. -/
def shN (n : Nat) (i : Nat) (x : N) : N := if okA x.a i = true ∧ okA x.b i = true then { x with a := x.a + n, b := x.b + n } else { x with a := -1, b := -1 }
/-- May a node be put behind others? -/
def goodN (i : Nat) (x : N) : Bool := (okA x.a i && okA x.b i) || decide (x.ask < 8)
/-- Nodes behind n others, from the k-th on. -/
def shL (n : Nat) : Nat → List N → List N
  | _, [] => []
  | i, x :: l => shN n i x :: shL n (i + 1) l
def goodL : Nat → List N → Bool
  | _, [] => true
  | i, x :: l => goodN i x && goodL (i + 1) l
theorem shL_len (n : Nat) : ∀ (i : Nat) (l : List N), (shL n i l).length = l.length
  | _, [] => rfl
  | i, x :: l => by simp [shL, shL_len n (i + 1) l]
theorem shL_snoc (n : Nat) : ∀ (i : Nat) (l : List N) (x : N), shL n i (l ++ [x]) = shL n i l ++ [shN n (i + l.length) x]
  | i, [], x => by simp [shL]
  | i, y :: l, x => by
    simp only [List.cons_append, shL, shL_snoc n (i + 1) l x, List.length_cons]
    rw [show i + 1 + l.length = i + (l.length + 1) by omega]
theorem goodL_snoc : ∀ (i : Nat) (l : List N) (x : N), goodL i (l ++ [x]) = (goodL i l && goodN (i + l.length) x)
  | i, [], x => by simp [goodL]
  | i, y :: l, x => by
    simp only [List.cons_append, goodL, goodL_snoc (i + 1) l x, List.length_cons, Bool.and_assoc]
    rw [show i + 1 + l.length = i + (l.length + 1) by omega]
theorem stepB_low {lf : Bool} {bs cs : List Bool} {x y : N} (h : x.ask < 8) (e : y.ask = x.ask) : stepB lf bs y = stepB lf cs x := by
  unfold stepB
  rw [e]
  by_cases h0 : x.ask = 0
  · simp [h0]
  by_cases h1 : 1 ≤ x.ask ∧ x.ask ≤ 7
  · simp [h1]
  · simp [h0, h1, show x.ask ≠ 10 by omega, show x.ask ≠ 8 by omega, show x.ask ≠ 9 by omega]
theorem getD_shift (us bs : List Bool) {a : Int} {i : Nat} (h : okA a i = true) (hl : bs.length = i) : (us ++ bs).getD (a + us.length).toNat false = bs.getD a.toNat false := by
  obtain ⟨j, rfl, hj⟩ := okA_ok h
  rw [show ((j : Int) + us.length).toNat = us.length + j by omega, show ((j : Int)).toNat = j by omega]
  simp [List.getD, List.getElem?_append_right]
theorem okA_shift {a : Int} {n i : Nat} (h : okA a i = true) : okA (a + n) (n + i) = true := by
  obtain ⟨j, rfl, hj⟩ := okA_ok h
  simp [okA]; omega
theorem stepB_shift {lf : Bool} {us bs : List Bool} {x : N} (h : goodN bs.length x = true) : stepB lf (us ++ bs) (shN us.length bs.length x) = stepB lf bs x := by
  unfold shN
  split
  · rename_i h1
    obtain ⟨ha, hb⟩ := h1
    unfold stepB
    simp only [List.length_append, okA_shift ha, okA_shift hb, ha, hb, getD_shift us bs ha rfl, getD_shift us bs hb rfl]
  · rename_i h1
    have : x.ask < 8 := by
      simp only [goodN, Bool.or_eq_true, Bool.and_eq_true, decide_eq_true_eq] at h
      rcases h with h | h
      · exact absurd h h1
      · exact h
    exact stepB_low this rfl
theorem shN_leaf (n i : Nat) (x : N) (vs : List V) : leafP (shN n i x) vs = leafP x vs := by
  unfold shN
  split <;> rfl
theorem dnB_shift (vs : List V) (xs : List N) : ∀ ys : List N, goodL 0 ys = true → dnB (fun x => leafP x vs) (xs ++ shL xs.length 0 ys) = dnB (fun x => leafP x vs) xs ++ dnB (fun x => leafP x vs) ys := by
  intro ys
  induction ys using snoc_ind with
  | h0 => intro _; simp [shL, dnB]
  | h1 l x ih =>
    intro h
    rw [goodL_snoc, Bool.and_eq_true, Nat.zero_add] at h
    rw [shL_snoc, ← List.append_assoc, dnB_snoc, dnB_snoc, ih h.1, Nat.zero_add, shN_leaf]
    have e1 : xs.length = (dnB (fun x => leafP x vs) xs).length := (dnB_len _ _).symm
    have e2 : l.length = (dnB (fun x => leafP x vs) l).length := (dnB_len _ _).symm
    have h2 := h.2
    rw [e2] at h2 ⊢
    rw [e1, stepB_shift h2, List.append_assoc]
section
variable {xs ys : List N} {vs : List V}
theorem join_bit (hx : 0 < xs.length) (hy : 0 < ys.length) (hg : goodL 0 ys = true) (a : Int) (z : N) (hz : z.a = ((xs.length - 1 : Nat) : Int)) (hz' : z.b = ((xs.length + ys.length - 1 : Nat) : Int)) :
    (z.ask = 8 → holdsL (fun x => leafP x vs) (xs ++ shL xs.length 0 ys ++ [z]) = (holdsL (fun x => leafP x vs) xs && holdsL (fun x => leafP x vs) ys)) ∧
    (z.ask = 9 → holdsL (fun x => leafP x vs) (xs ++ shL xs.length 0 ys ++ [z]) = (holdsL (fun x => leafP x vs) xs || holdsL (fun x => leafP x vs) ys)) := by
  have hl : (dnB (fun x => leafP x vs) xs).length = xs.length := dnB_len _ _
  have hl2 : (dnB (fun x => leafP x vs) ys).length = ys.length := dnB_len _ _
  have hlast : holdsL (fun x => leafP x vs) (xs ++ shL xs.length 0 ys ++ [z]) = stepB (leafP z vs) (dnB (fun x => leafP x vs) xs ++ dnB (fun x => leafP x vs) ys) z := by
    simp only [holdsL]
    rw [if_neg (by simp), dnB_snoc, dnB_shift vs xs ys hg]
    rw [List.getD, List.getElem?_append_right (by simp [hl, hl2, shL_len])]
    simp [hl, hl2, shL_len]
  have g1 : (dnB (fun x => leafP x vs) xs ++ dnB (fun x => leafP x vs) ys).getD (xs.length - 1) false = (dnB (fun x => leafP x vs) xs).getD (xs.length - 1) false := by
    simp only [List.getD]
    rw [List.getElem?_append_left (by omega)]
  have g2 : (dnB (fun x => leafP x vs) xs ++ dnB (fun x => leafP x vs) ys).getD (xs.length + ys.length - 1) false = (dnB (fun x => leafP x vs) ys).getD (ys.length - 1) false := by
    simp only [List.getD]
    rw [List.getElem?_append_right (by omega), hl, show xs.length + ys.length - 1 - xs.length = ys.length - 1 by omega]
  have o1 : okA z.a (dnB (fun x => leafP x vs) xs ++ dnB (fun x => leafP x vs) ys).length = true := by
    rw [hz]; simp [okA, hl, hl2]; omega
  have o2 : okA z.b (dnB (fun x => leafP x vs) xs ++ dnB (fun x => leafP x vs) ys).length = true := by
    rw [hz']; simp [okA, hl, hl2]; omega
  have t1 : z.a.toNat = xs.length - 1 := by rw [hz]; simp
  have t2 : z.b.toNat = xs.length + ys.length - 1 := by rw [hz']; simp
  rw [hlast]
  simp only [stepB, o1, o2, t1, t2, g1, g2, holdsL, if_neg (show ¬ xs.length = 0 by omega), if_neg (show ¬ ys.length = 0 by omega)]
  refine ⟨fun e => ?_, fun e => ?_⟩
  · simp [e]
  · simp [e]
theorem neg_bit (hy : 0 < ys.length) (hg : goodL 0 ys = true) (z : N) (hz : z.a = ((xs.length + ys.length - 1 : Nat) : Int)) (e : z.ask = 10) :
    holdsL (fun x => leafP x vs) (xs ++ shL xs.length 0 ys ++ [z]) = !holdsL (fun x => leafP x vs) ys := by
  have hl : (dnB (fun x => leafP x vs) xs).length = xs.length := dnB_len _ _
  have hl2 : (dnB (fun x => leafP x vs) ys).length = ys.length := dnB_len _ _
  have hlast : holdsL (fun x => leafP x vs) (xs ++ shL xs.length 0 ys ++ [z]) = stepB (leafP z vs) (dnB (fun x => leafP x vs) xs ++ dnB (fun x => leafP x vs) ys) z := by
    simp only [holdsL]
    rw [if_neg (by simp), dnB_snoc, dnB_shift vs xs ys hg]
    rw [List.getD, List.getElem?_append_right (by simp [hl, hl2, shL_len])]
    simp [hl, hl2, shL_len]
  have g2 : (dnB (fun x => leafP x vs) xs ++ dnB (fun x => leafP x vs) ys).getD (xs.length + ys.length - 1) false = (dnB (fun x => leafP x vs) ys).getD (ys.length - 1) false := by
    simp only [List.getD]
    rw [List.getElem?_append_right (by omega), hl, show xs.length + ys.length - 1 - xs.length = ys.length - 1 by omega]
  have o1 : okA z.a (dnB (fun x => leafP x vs) xs ++ dnB (fun x => leafP x vs) ys).length = true := by
    rw [hz]; simp [okA, hl, hl2]; omega
  have t1 : z.a.toNat = xs.length + ys.length - 1 := by rw [hz]; simp
  rw [hlast]
  simp only [stepB, o1, t1, g2, holdsL, if_neg (show ¬ ys.length = 0 by omega)]
  simp [e]
end
section
variable {xs ys : List N} {rs : List (List V)}
theorem rowsW_bits (xs : List N) (rs : List (List V)) (i : Nat) : bit (rowsW xs rs) i = (decide (i < rs.length) && holdsL (fun x => leafP x (rs.getD i [])) xs) := by
  by_cases c : i < rs.length
  · rw [rowsW_bit xs rs (List.getElem?_eq_getElem c)]
    simp [c, List.getD]
  · rw [rowsW_out xs rs (by omega)]; simp [c]
theorem join_W (hx : 0 < xs.length) (hy : 0 < ys.length) (hg : goodL 0 ys = true) (z : N) (hz : z.a = ((xs.length - 1 : Nat) : Int)) (hz' : z.b = ((xs.length + ys.length - 1 : Nat) : Int)) (i : Nat) :
    (z.ask = 8 → bit (rowsW (xs ++ shL xs.length 0 ys ++ [z]) rs) i = bit (andW (rowsW xs rs) (rowsW ys rs)) i) ∧
    (z.ask = 9 → bit (rowsW (xs ++ shL xs.length 0 ys ++ [z]) rs) i = bit (orW (rowsW xs rs) (rowsW ys rs)) i) := by
  rw [bit_and, bit_or, rowsW_bits, rowsW_bits xs, rowsW_bits ys]
  have := join_bit (vs := rs.getD i []) hx hy hg 0 z hz hz'
  refine ⟨fun e => ?_, fun e => ?_⟩
  · rw [this.1 e]; cases decide (i < rs.length) <;> simp
  · rw [this.2 e]; cases decide (i < rs.length) <;> simp
theorem neg_W (hy : 0 < ys.length) (hg : goodL 0 ys = true) (z : N) (hz : z.a = ((xs.length + ys.length - 1 : Nat) : Int)) (e : z.ask = 10) (bw : WB (rowsW ys rs)) (i : Nat) :
    bit (rowsW (xs ++ shL xs.length 0 ys ++ [z]) rs) i = bit (notW (rowsW ys rs) rs.length) i := by
  rw [bit_not bw, rowsW_bits, rowsW_bits ys, neg_bit hy hg z hz e]
  cases decide (i < rs.length) <;> simp
end
end Go.Proofs.YtfgnefnpfgdliaaDoor
