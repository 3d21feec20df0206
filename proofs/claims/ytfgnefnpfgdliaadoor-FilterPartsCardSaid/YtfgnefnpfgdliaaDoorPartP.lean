/- Plain facts: nothing, ahead of it, it, behind it: each cell of a column is just one of these. -/
import Derived.Test.YtfgnefnpfgdliaaDoorPopR
namespace Go.Proofs.YtfgnefnpfgdliaaDoor
set_option linter.unusedVariables false
set_option linter.unusedSimpArgs false
/-- One question of a column. -/
def pN (a col : Int) (v : V) : N := ⟨a, col, v, 0, 0⟩
def hasP (col : Int) (vs : List V) : Bool := decide (0 ≤ col) && decide (col < (vs.length : Int))
theorem pN_bit (a col : Int) (v : V) (h1 : 1 ≤ a) (h2 : a ≤ 7) (rs : List (List V)) (i : Nat) : bit (rowsW [pN a col v] rs) i = (decide (i < rs.length) && leafP (pN a col v) (rs.getD i [])) := by
  by_cases c : i < rs.length
  · have h : rs[i]? = some rs[i] := List.getElem?_eq_getElem c
    rw [rowsW_bit _ rs h]
    have e : rs.getD i [] = rs[i] := by rw [List.getD_eq_getElem?_getD, h]; rfl
    rw [e]
    have hs : stepB (leafP (pN a col v) rs[i]) [] (pN a col v) = leafP (pN a col v) rs[i] := by
      unfold stepB
      rw [if_neg (by simp [pN]; omega), if_pos (by simp [pN]; omega)]
    simp [holdsL, dnB, c, hs]
  · rw [rowsW_out _ rs (by omega)]
    simp [c]
theorem pN_list (a col : Int) (v : V) (h1 : 1 ≤ a) (h2 : a ≤ 7) (rs : List (List V)) : bitsOf (rowsW [pN a col v] rs) 0 = (List.range rs.length).filter fun i => leafP (pN a col v) (rs.getD i []) := by
  rw [bitsOf_sup (n := rs.length) (fun i hi => rowsW_out _ rs hi)]
  refine List.filter_congr fun i hi => ?_
  rw [pN_bit a col v h1 h2]
  simp [List.mem_range.1 hi]
def b2n (b : Bool) : Nat := if b then 1 else 0
theorem one4 (col : Int) (v : V) (vs : List V) : b2n (leafP (pN 7 col v) vs) + b2n (leafP (pN 3 col v) vs) + b2n (leafP (pN 1 col v) vs) + b2n (leafP (pN 5 col v) vs) = b2n (hasP col vs) ∧
    (leafP (pN 7 col v) vs || leafP (pN 3 col v) vs || leafP (pN 1 col v) vs || leafP (pN 5 col v) vs) = hasP col vs := by
  by_cases c : 0 ≤ col
  · obtain ⟨j, rfl⟩ := Int.eq_ofNat_of_zero_le c
    by_cases cj : j < vs.length
    · have hv : vs[j]? = some vs[j] := List.getElem?_eq_getElem cj
      have hh : hasP (j : Int) vs = true := by simp [hasP]; omega
      have hl : ∀ a, leafP (pN a j v) vs = oneP (pN a j v) vs[j] := by
        intro a
        simp [leafP, pN, hv]
      rw [hh, hl, hl, hl, hl]
      by_cases k : vs[j].k = 0
      · simp [oneP, pN, k, b2n]
      · have o1 : oneP (pN 7 j v) vs[j] = false := by simp [oneP, pN, k]
        have o2 : ∀ a : Int, a ≠ 7 → oneP (pN a j v) vs[j] = cmpP a (ord vs[j] v) := by
          intro a ha
          simp [oneP, pN, k, ha]
        rw [o1, o2 3 (by decide), o2 1 (by decide), o2 5 (by decide)]
        generalize ord vs[j] v = n
        simp only [cmpP]
        by_cases n1 : n < 0
        · have n2 : ¬ n = 0 := by omega
          have n3 : ¬ 0 < n := by omega
          simp [n1, n2, n3, b2n]
        · by_cases n2 : n = 0
          · subst n2; simp [b2n]
          · have n3 : 0 < n := by omega
            simp [n1, n2, n3, b2n]
    · have hv : vs[j]? = none := List.getElem?_eq_none (by omega)
      have hh : hasP (j : Int) vs = false := by simp [hasP]; omega
      have hl : ∀ a, leafP (pN a j v) vs = false := by
        intro a
        simp [leafP, pN, hv]
      rw [hh, hl, hl, hl, hl]
      simp [b2n]
  · have hh : hasP col vs = false := by simp [hasP]; omega
    have hl : ∀ a, leafP (pN a col v) vs = false := by
      intro a
      have h0 : decide (0 ≤ col) = false := by simpa using c
      show (decide (0 ≤ col) && _) = false
      rw [h0]; rfl
    rw [hh, hl, hl, hl, hl]
    simp [b2n]
theorem filter_b2n {α : Type} (p : α → Bool) (x : α) (l : List α) : ((x :: l).filter p).length = b2n (p x) + (l.filter p).length := by
  rw [List.filter_cons]
  cases p x <;> simp [b2n]
  omega
theorem sum4 {α : Type} (p q r s t : α → Bool) (h : ∀ x, b2n (p x) + b2n (q x) + b2n (r x) + b2n (s x) = b2n (t x)) : ∀ l : List α, (l.filter p).length + (l.filter q).length + (l.filter r).length + (l.filter s).length = (l.filter t).length
  | [] => rfl
  | x :: l => by
    have := sum4 p q r s t h l
    have := h x
    rw [filter_b2n, filter_b2n, filter_b2n, filter_b2n, filter_b2n]
    omega
def hasN (col : Int) (rs : List (List V)) (n : Nat) : Nat := ((List.range n).filter fun i => hasP col (rs.getD i [])).length
theorem hasN_le (col : Int) (rs : List (List V)) (n : Nat) : hasN col rs n ≤ n := by
  have := List.length_filter_le (fun i => hasP col (rs.getD i [])) (List.range n)
  simpa [hasN] using this
theorem hasN_succ (col : Int) (rs : List (List V)) (i : Nat) {vs : List V} (h : rs[i]? = some vs) : hasN col rs (i + 1) = hasN col rs i + b2n (hasP col vs) := by
  have e : rs.getD i [] = vs := by rw [List.getD_eq_getElem?_getD, h]; rfl
  unfold hasN
  rw [List.range_succ, List.filter_append, List.length_append, filter_b2n, e]
  simp
def pcnt (a col : Int) (v : V) (rs : List (List V)) : Nat := (bitsOf (rowsW [pN a col v] rs) 0).length
theorem pcnt_sum (col : Int) (v : V) (rs : List (List V)) : pcnt 7 col v rs + pcnt 3 col v rs + pcnt 1 col v rs + pcnt 5 col v rs = hasN col rs rs.length := by
  unfold pcnt hasN
  rw [pN_list 7 col v (by decide) (by decide), pN_list 3 col v (by decide) (by decide), pN_list 1 col v (by decide) (by decide), pN_list 5 col v (by decide) (by decide)]
  exact sum4 _ _ _ _ _ (fun i => (one4 col v (rs.getD i [])).1) _
theorem pcnt_le (a col : Int) (v : V) (h1 : 1 ≤ a) (h2 : a ≤ 7) (rs : List (List V)) : pcnt a col v rs ≤ rs.length := by
  unfold pcnt
  rw [pN_list a col v h1 h2]
  have := List.length_filter_le (fun i => leafP (pN a col v) (rs.getD i [])) (List.range rs.length)
  simpa using this
/-- All of them. -/
def allW (col : Int) (v : V) (rs : List (List V)) : List Nat := orW (orW (orW (orW [] (rowsW [pN 7 col v] rs)) (rowsW [pN 3 col v] rs)) (rowsW [pN 1 col v] rs)) (rowsW [pN 5 col v] rs)
theorem all_cnt (col : Int) (v : V) (rs : List (List V)) : (bitsOf (allW col v rs) 0).length = hasN col rs rs.length := by
  have hb : ∀ i, bit (allW col v rs) i = (decide (i < rs.length) && hasP col (rs.getD i [])) := by
    intro i
    unfold allW
    rw [bit_or, bit_or, bit_or, bit_or, pN_bit 7 col v (by decide) (by decide), pN_bit 3 col v (by decide) (by decide), pN_bit 1 col v (by decide) (by decide), pN_bit 5 col v (by decide) (by decide), ← (one4 col v (rs.getD i [])).2]
    rw [bit_out (ws := []) (by simp)]
    by_cases c : i < rs.length <;> simp [c]
  rw [bitsOf_sup (n := rs.length) (fun i hi => by rw [hb]; simp; intro h; omega)]
  unfold hasN
  congr 1
  refine List.filter_congr fun i hi => ?_
  rw [hb]
  simp [List.mem_range.1 hi]
end Go.Proofs.YtfgnefnpfgdliaaDoor
