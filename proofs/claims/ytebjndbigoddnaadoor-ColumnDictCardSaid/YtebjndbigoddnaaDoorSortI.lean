/- Plain Lean: sizes and ranges of the sort's parts. Ideal runs: the stages of a round of pdqsort. Ideal runs: pdqsort sorts. -/
import Derived.Test.YtebjndbigoddnaaDoorSortF
import Derived.Sort.AssemblyPlain
namespace Go.Proofs.YtebjndbigoddnaaDoor
set_option linter.unusedSectionVars false
set_option linter.unusedVariables false
theorem scanUp_bd (p : V → Bool) (d : Array V) : ∀ (k i j : Nat), j + 1 - i ≤ k → i ≤ Go.Sort.scanUp p d j i ∧ (Go.Sort.scanUp p d j i ≤ j + 1 ∨ Go.Sort.scanUp p d j i = i) := by
  intro k
  induction k with
  | zero =>
    intro i j h
    rw [Go.Sort.scanUp, if_neg (by simp; omega)]
    exact ⟨Nat.le_refl _, .inr rfl⟩
  | succ k ih =>
    intro i j h
    rw [Go.Sort.scanUp]
    split
    · rename_i hc
      simp at hc
      have := ih (i + 1) j (by omega)
      omega
    · exact ⟨Nat.le_refl _, .inr rfl⟩
theorem scanDown_bd (p : V → Bool) (d : Array V) (i : Nat) (h1 : 1 ≤ i) : ∀ (j : Nat), Go.Sort.scanDown p d i j ≤ j ∧ (i ≤ j + 1 → i ≤ Go.Sort.scanDown p d i j + 1) ∧ (j < i → Go.Sort.scanDown p d i j = j)
  | 0 => by simp [Go.Sort.scanDown]
  | j + 1 => by
    have ih := scanDown_bd p d i h1 j
    rw [Go.Sort.scanDown]
    split
    · rename_i hc
      simp at hc
      omega
    · exact ⟨Nat.le_refl _, fun h => h, fun _ => rfl⟩
theorem partEq_bd (a : Nat) : ∀ (k i j : Nat) (d : Array V), j + 1 - i ≤ k → 1 ≤ i → i ≤ j + 2 → (Go.Sort.partEqLoop lt a i j d).2.size = d.size ∧ i ≤ (Go.Sort.partEqLoop lt a i j d).1 ∧ (i ≤ j + 1 → (Go.Sort.partEqLoop lt a i j d).1 ≤ j + 1) ∧ (j + 2 = i → (Go.Sort.partEqLoop lt a i j d).1 = i) := by
  intro k
  induction k with
  | zero =>
    intro i j d hk h1 hij
    have b1 := scanUp_bd (fun x => !lt d[a]! x) d (j + 1) i j (by omega)
    rw [Go.Sort.partEqLoop]
    generalize Go.Sort.scanUp (fun x => !lt d[a]! x) d j i = i2 at b1 ⊢
    have b2 := scanDown_bd (fun x => lt d[a]! x) d i2 (by omega) j
    generalize Go.Sort.scanDown (fun x => lt d[a]! x) d i2 j = j2 at b2 ⊢
    try simp only
    rw [if_pos (by omega)]
    exact ⟨rfl, by show i ≤ i2; omega, fun _ => by show i2 ≤ j + 1; omega, fun _ => by show i2 = i; omega⟩
  | succ k ih =>
    intro i j d hk h1 hij
    have b1 := scanUp_bd (fun x => !lt d[a]! x) d (j + 1) i j (by omega)
    rw [Go.Sort.partEqLoop]
    generalize Go.Sort.scanUp (fun x => !lt d[a]! x) d j i = i2 at b1 ⊢
    have b2 := scanDown_bd (fun x => lt d[a]! x) d i2 (by omega) j
    generalize Go.Sort.scanDown (fun x => lt d[a]! x) d i2 j = j2 at b2 ⊢
    try simp only
    by_cases hc : i2 > j2
    · rw [if_pos hc]
      exact ⟨rfl, by show i ≤ i2; omega, fun _ => by show i2 ≤ j + 1; omega, fun _ => by show i2 = i; omega⟩
    · rw [if_neg hc, dif_pos (by omega)]
      have h := ih (i2 + 1) (j2 - 1) (Go.Sort.swp d i2 j2) (by omega) (by omega) (by omega)
      rw [swp_size] at h
      refine ⟨h.1, by omega, fun hh => ?_, fun hh => by omega⟩
      by_cases hq : i2 + 1 ≤ j2 - 1 + 1
      · have := h.2.2.1 hq; omega
      · have := h.2.2.2 (by omega); omega
theorem part_bd (a : Nat) : ∀ (k i j : Nat) (d : Array V), j + 1 - i ≤ k → 1 ≤ i → i ≤ j + 2 → (Go.Sort.partLoop lt a i j d).2.size = d.size ∧ (Go.Sort.partLoop lt a i j d).1 ≤ j ∧ (i ≤ j + 1 → i ≤ (Go.Sort.partLoop lt a i j d).1 + 1) ∧ (j + 2 = i → (Go.Sort.partLoop lt a i j d).1 = j) := by
  intro k
  induction k with
  | zero =>
    intro i j d hk h1 hij
    have b1 := scanUp_bd (fun x => lt x d[a]!) d (j + 1) i j (by omega)
    rw [Go.Sort.partLoop]
    generalize Go.Sort.scanUp (fun x => lt x d[a]!) d j i = i2 at b1 ⊢
    have b2 := scanDown_bd (fun x => !lt x d[a]!) d i2 (by omega) j
    generalize Go.Sort.scanDown (fun x => !lt x d[a]!) d i2 j = j2 at b2 ⊢
    try simp only
    rw [if_pos (by omega)]
    exact ⟨rfl, b2.1, fun _ => by show i ≤ j2 + 1; omega, fun _ => by show j2 = j; omega⟩
  | succ k ih =>
    intro i j d hk h1 hij
    have b1 := scanUp_bd (fun x => lt x d[a]!) d (j + 1) i j (by omega)
    rw [Go.Sort.partLoop]
    generalize Go.Sort.scanUp (fun x => lt x d[a]!) d j i = i2 at b1 ⊢
    have b2 := scanDown_bd (fun x => !lt x d[a]!) d i2 (by omega) j
    generalize Go.Sort.scanDown (fun x => !lt x d[a]!) d i2 j = j2 at b2 ⊢
    try simp only
    by_cases hc : i2 > j2
    · rw [if_pos hc]
      exact ⟨rfl, b2.1, fun _ => by show i ≤ j2 + 1; omega, fun _ => by show j2 = j; omega⟩
    · rw [if_neg hc, dif_pos (by omega)]
      have h := ih (i2 + 1) (j2 - 1) (Go.Sort.swp d i2 j2) (by omega) (by omega) (by omega)
      rw [swp_size] at h
      refine ⟨h.1, by omega, fun hh => ?_, fun hh => by omega⟩
      by_cases hq : i2 + 1 ≤ j2 - 1 + 1
      · have := h.2.2.1 hq; omega
      · have := h.2.2.2 (by omega); omega
theorem partitionEqual_bd {a b p : Nat} (hab : a < b) (d : Array V) : (Go.Sort.partitionEqual lt d a b p).2.size = d.size ∧ a < (Go.Sort.partitionEqual lt d a b p).1 ∧ (Go.Sort.partitionEqual lt d a b p).1 ≤ b := by
  have h := partEq_bd a (b + 1) (a + 1) (b - 1) (Go.Sort.swp d a p) (by omega) (by omega) (by omega)
  rw [swp_size] at h
  rw [Go.Sort.partitionEqual]
  refine ⟨h.1, by omega, ?_⟩
  have := h.2.2.1 (by omega)
  omega
theorem partition_bd {a b p : Nat} (hab : a < b) (d : Array V) : (Go.Sort.partition lt d a b p).2.2.size = d.size ∧ a ≤ (Go.Sort.partition lt d a b p).1 ∧ (Go.Sort.partition lt d a b p).1 < b := by
  obtain ⟨d1, hd1⟩ : ∃ d1, d1 = Go.Sort.swp d a p := ⟨_, rfl⟩
  have hs : d1.size = d.size := by rw [hd1, swp_size]
  have b1 := scanUp_bd (fun x => lt x d1[a]!) d1 (b + 1) (a + 1) (b - 1) (by omega)
  simp only [Go.Sort.partition]
  rw [← hd1]
  generalize Go.Sort.scanUp (fun x => lt x d1[a]!) d1 (b - 1) (a + 1) = i at b1 ⊢
  have b2 := scanDown_bd (fun x => !lt x d1[a]!) d1 i (by omega) (b - 1)
  generalize Go.Sort.scanDown (fun x => !lt x d1[a]!) d1 i (b - 1) = j at b2 ⊢
  split
  · refine ⟨by simp only [swp_size]; exact hs, by show a ≤ j; omega, by show j < b; omega⟩
  · rename_i hc
    have h := part_bd a (b + 1) (i + 1) (j - 1) (Go.Sort.swp d1 i j) (by omega) (by omega) (by omega)
    rw [swp_size] at h
    refine ⟨by simp only [swp_size]; rw [h.1, hs], ?_, ?_⟩
    · by_cases hq : i + 1 ≤ j - 1 + 1
      · have := h.2.2.1 hq; show a ≤ (Go.Sort.partLoop lt a (i + 1) (j - 1) (Go.Sort.swp d1 i j)).1; omega
      · have := h.2.2.2 (by omega); show a ≤ (Go.Sort.partLoop lt a (i + 1) (j - 1) (Go.Sort.swp d1 i j)).1; omega
    · show (Go.Sort.partLoop lt a (i + 1) (j - 1) (Go.Sort.swp d1 i j)).1 < b; omega
theorem insertionSort_size (a b : Nat) (d : Array V) : (Go.Sort.insertionSort lt d a b).size = d.size := insOuter_size a b (a + 1) d
theorem heapPop_size (first : Nat) : ∀ (k : Nat) (d : Array V), (Go.Sort.heapPop lt first k d).size = d.size
  | 0, d => rfl
  | k + 1, d => by rw [Go.Sort.heapPop, heapPop_size first k, siftDown_size k first k 0 _ (by omega), swp_size]
theorem heapBuild_size (hi first : Nat) : ∀ (k : Nat) (d : Array V), (Go.Sort.heapBuild lt hi first k d).size = d.size
  | 0, d => rfl
  | k + 1, d => by rw [Go.Sort.heapBuild, heapBuild_size hi first k, siftDown_size hi first hi k _ (by omega)]
theorem heapSort_size (a b : Nat) (d : Array V) : (Go.Sort.heapSort lt d a b).size = d.size := by
  rw [Go.Sort.heapSort, heapPop_size, heapBuild_size]
theorem reverseLoop_size : ∀ (k i j : Nat) (d : Array V), j - i ≤ k → (Go.Sort.reverseLoop i j d).size = d.size := by
  intro k
  induction k with
  | zero => intro i j d h; rw [Go.Sort.reverseLoop, if_neg (by omega)]
  | succ k ih =>
    intro i j d h
    rw [Go.Sort.reverseLoop]
    split
    · rw [ih _ _ _ (by omega), swp_size]
    · rfl
theorem reverseRange_size (a b : Nat) (d : Array V) : (Go.Sort.reverseRange d a b).size = d.size := reverseLoop_size b a (b - 1) d (by omega)
theorem breakPatterns_size (a b : Nat) (d : Array V) : (Go.Sort.breakPatterns d a b).size = d.size := by
  rw [Go.Sort.breakPatterns]
  simp only
  split
  · have e : ∀ (l m i : Nat) (q : UInt64 × Array V), (Go.Sort.breakStep a l m q i).2.size = q.2.size := fun l m i q => break_size a l m i q.1 q.2
    rw [e, e, e]
  · rfl
set_option linter.unusedSimpArgs false
set_option maxRecDepth 10000
def q1 : XC := .reg [⟨some 21, .mov (.t 2), none, false⟩, ⟨some 22, .mov (.t 1), none, false⟩, ⟨some 23, .bin .sub (.t 21) (.t 22), none, false⟩, ⟨some 12, .mov (.t 23), none, false⟩] [0, 1, 2, 3, 4, 10, 11, 12]
def q2 : XC := .seq (.reg [⟨some 24, .mov (.t 12), none, false⟩, ⟨some 25, .bin .leq (.t 24) (.c (.int .i64 12)), none, false⟩] [0, 1, 2, 3, 4, 10, 11, 12, 25]) (.cond (.t 25) (.seq (.reg [⟨some 26, .mov (.t 0), none, false⟩, ⟨some 27, .mov (.t 1), none, false⟩, ⟨some 28, .mov (.t 2), none, false⟩, ⟨some 29, .mov (.t 4), none, false⟩, ⟨some 30, .call (.c (.func 131 [] [])) [.t 26, .t 27, .t 28, .t 29], none, false⟩] []) .ret) .skip)
def q3 : XC := .seq (.reg [⟨some 31, .mov (.t 3), none, false⟩, ⟨some 32, .bin .eql (.t 31) (.c (.int .i64 0)), none, false⟩] [0, 1, 2, 3, 4, 10, 11, 12, 32]) (.cond (.t 32) (.seq (.reg [⟨some 33, .mov (.t 0), none, false⟩, ⟨some 34, .mov (.t 1), none, false⟩, ⟨some 35, .mov (.t 2), none, false⟩, ⟨some 36, .mov (.t 4), none, false⟩, ⟨some 37, .call (.c (.func 132 [] [])) [.t 33, .t 34, .t 35, .t 36], none, false⟩] []) .ret) .skip)
def q4 : XC := .seq (.reg [⟨some 38, .mov (.t 10), none, false⟩, ⟨some 39, .un .not (.t 38), none, false⟩] [0, 1, 2, 3, 4, 10, 11, 12, 39]) (.cond (.t 39) (.seq (.reg [⟨some 40, .mov (.t 0), none, false⟩, ⟨some 41, .mov (.t 1), none, false⟩, ⟨some 42, .mov (.t 2), none, false⟩, ⟨some 43, .mov (.t 4), none, false⟩, ⟨some 44, .call (.c (.func 133 [] [])) [.t 40, .t 41, .t 42, .t 43], none, false⟩] [0, 1, 2, 3, 4, 10, 11, 12]) (.reg [⟨some 45, .mov (.t 3), none, false⟩, ⟨some 46, .bin .sub (.t 45) (.c (.int .i64 1)), none, false⟩, ⟨some 3, .mov (.t 46), none, false⟩] [0, 1, 2, 3, 4, 10, 11, 12])) .skip)
def q5 : XC := .reg [⟨some 48, .mov (.t 0), none, false⟩, ⟨some 49, .mov (.t 1), none, false⟩, ⟨some 50, .mov (.t 2), none, false⟩, ⟨some 51, .mov (.t 4), none, false⟩, ⟨some 52, .call (.c (.func 134 [] [])) [.t 48, .t 49, .t 50, .t 51], none, false⟩, ⟨some 47, .mov (.t 52), none, false⟩, ⟨some 53, .ext (.t 47) 0, none, false⟩, ⟨some 54, .ext (.t 47) 1, none, false⟩, ⟨some 13, .mov (.t 53), none, false⟩, ⟨some 14, .mov (.t 54), none, false⟩] [0, 1, 2, 3, 4, 10, 11, 12, 13, 14]
def q6 : XC := .seq (.reg [⟨some 55, .mov (.t 14), none, false⟩, ⟨some 56, .bin .eql (.t 55) (.c (.int .i64 2)), none, false⟩] [0, 1, 2, 3, 4, 10, 11, 12, 13, 14, 56]) (.cond (.t 56) (.seq (.reg [⟨some 57, .mov (.t 0), none, false⟩, ⟨some 58, .mov (.t 1), none, false⟩, ⟨some 59, .mov (.t 2), none, false⟩, ⟨some 60, .mov (.t 4), none, false⟩, ⟨some 61, .call (.c (.func 135 [] [])) [.t 57, .t 58, .t 59, .t 60], none, false⟩] [0, 1, 2, 3, 4, 10, 11, 12, 13]) (.seq (.reg [⟨some 62, .mov (.t 2), none, false⟩, ⟨some 63, .bin .sub (.t 62) (.c (.int .i64 1)), none, false⟩, ⟨some 64, .mov (.t 13), none, false⟩, ⟨some 65, .mov (.t 1), none, false⟩, ⟨some 66, .bin .sub (.t 64) (.t 65), none, false⟩, ⟨some 67, .bin .sub (.t 63) (.t 66), none, false⟩, ⟨some 13, .mov (.t 67), none, false⟩] [0, 1, 2, 3, 4, 10, 11, 12, 13]) (.reg [⟨some 14, .mov (.c (.int .i64 1)), none, false⟩] [0, 1, 2, 3, 4, 10, 11, 12, 13, 14]))) .skip)
def q7 : XC := .seq (.reg [⟨some 68, .mov (.t 10), none, false⟩, ⟨some 69, .mov (.t 68), none, false⟩, ⟨some 70, .mov (.t 11), some (69, true), false⟩, ⟨some 71, .pick (.t 69) (.t 70) (.c (.bool false)), none, false⟩, ⟨some 72, .mov (.t 71), none, false⟩, ⟨some 73, .mov (.t 14), some (72, true), false⟩, ⟨some 74, .bin .eql (.t 73) (.c (.int .i64 1)), some (72, true), false⟩, ⟨some 75, .pick (.t 72) (.t 74) (.c (.bool false)), none, false⟩] [0, 1, 2, 3, 4, 10, 11, 12, 13, 75]) (.cond (.t 75) (.seq (.reg [⟨some 76, .mov (.t 0), none, false⟩, ⟨some 77, .mov (.t 1), none, false⟩, ⟨some 78, .mov (.t 2), none, false⟩, ⟨some 79, .mov (.t 4), none, false⟩, ⟨some 80, .call (.c (.func 136 [] [])) [.t 76, .t 77, .t 78, .t 79], none, false⟩] [0, 1, 2, 3, 4, 10, 11, 12, 13, 80]) (.cond (.t 80) .ret .skip)) .skip)
def q8 : XC := .seq (.reg [⟨some 81, .mov (.t 1), none, false⟩, ⟨some 82, .bin .gtr (.t 81) (.c (.int .i64 0)), none, false⟩, ⟨some 83, .mov (.t 82), none, false⟩, ⟨some 84, .mov (.t 4), some (83, true), false⟩, ⟨some 85, .mov (.t 0), some (83, true), false⟩, ⟨some 86, .mov (.t 1), some (83, true), false⟩, ⟨some 87, .bin .sub (.t 86) (.c (.int .i64 1)), some (83, true), false⟩, ⟨some 88, .iaddr 4 (.t 85) (.t 87), some (83, true), false⟩, ⟨some 89, .load true 4 (.t 88), some (83, true), false⟩, ⟨some 90, .mov (.t 0), some (83, true), false⟩, ⟨some 91, .mov (.t 13), some (83, true), false⟩, ⟨some 92, .iaddr 4 (.t 90) (.t 91), some (83, true), false⟩, ⟨some 93, .load true 4 (.t 92), some (83, true), false⟩, ⟨some 94, .call (.t 84) [.t 89, .t 93], some (83, true), false⟩, ⟨some 95, .bin .lss (.t 94) (.c (.int .i64 0)), some (83, true), false⟩, ⟨some 96, .un .not (.t 95), some (83, true), false⟩, ⟨some 97, .pick (.t 83) (.t 96) (.c (.bool false)), none, false⟩] [0, 1, 2, 3, 4, 10, 11, 12, 13, 97]) (.cond (.t 97) (.seq (.reg [⟨some 98, .mov (.t 0), none, false⟩, ⟨some 99, .mov (.t 1), none, false⟩, ⟨some 100, .mov (.t 2), none, false⟩, ⟨some 101, .mov (.t 13), none, false⟩, ⟨some 102, .mov (.t 4), none, false⟩, ⟨some 103, .call (.c (.func 137 [] [])) [.t 98, .t 99, .t 100, .t 101, .t 102], none, false⟩, ⟨some 15, .mov (.t 103), none, false⟩] [0, 2, 3, 4, 10, 11, 15]) (.seq (.reg [⟨some 104, .mov (.t 15), none, false⟩, ⟨some 1, .mov (.t 104), none, false⟩] [0, 1, 2, 3, 4, 10, 11]) (.exit 1))) .skip)
def q9 : XC := .reg [⟨some 106, .mov (.t 0), none, false⟩, ⟨some 107, .mov (.t 1), none, false⟩, ⟨some 108, .mov (.t 2), none, false⟩, ⟨some 109, .mov (.t 13), none, false⟩, ⟨some 110, .mov (.t 4), none, false⟩, ⟨some 111, .call (.c (.func 138 [] [])) [.t 106, .t 107, .t 108, .t 109, .t 110], none, false⟩, ⟨some 105, .mov (.t 111), none, false⟩, ⟨some 112, .ext (.t 105) 0, none, false⟩, ⟨some 113, .ext (.t 105) 1, none, false⟩, ⟨some 16, .mov (.t 112), none, false⟩, ⟨some 17, .mov (.t 113), none, false⟩] [0, 1, 2, 3, 4, 12, 16, 17]
def q10 : XC := .reg [⟨some 114, .mov (.t 17), none, false⟩, ⟨some 11, .mov (.t 114), none, false⟩] [0, 1, 2, 3, 4, 11, 12, 16]
def q11 : XC := .reg [⟨some 115, .mov (.t 16), none, false⟩, ⟨some 116, .mov (.t 1), none, false⟩, ⟨some 117, .bin .sub (.t 115) (.t 116), none, false⟩, ⟨some 118, .mov (.t 2), none, false⟩, ⟨some 119, .mov (.t 16), none, false⟩, ⟨some 120, .bin .sub (.t 118) (.t 119), none, false⟩, ⟨some 18, .mov (.t 117), none, false⟩, ⟨some 19, .mov (.t 120), none, false⟩] [0, 1, 2, 3, 4, 11, 12, 16, 18, 19]
def q12 : XC := .reg [⟨some 121, .mov (.t 12), none, false⟩, ⟨some 122, .bin .quo (.t 121) (.c (.int .i64 8)), none, false⟩, ⟨some 20, .mov (.t 122), none, false⟩] [0, 1, 2, 3, 4, 11, 16, 18, 19, 20]
def q13 : XC := .seq (.reg [⟨some 123, .mov (.t 18), none, false⟩, ⟨some 124, .mov (.t 19), none, false⟩, ⟨some 125, .bin .lss (.t 123) (.t 124), none, false⟩] [0, 1, 2, 3, 4, 11, 16, 18, 19, 20, 125]) (.cond (.t 125) (.seq (.reg [⟨some 126, .mov (.t 18), none, false⟩, ⟨some 127, .mov (.t 20), none, false⟩, ⟨some 128, .bin .geq (.t 126) (.t 127), none, false⟩, ⟨some 10, .mov (.t 128), none, false⟩] [0, 1, 2, 3, 4, 10, 11, 16]) (.seq (.reg [⟨some 129, .mov (.t 0), none, false⟩, ⟨some 130, .mov (.t 1), none, false⟩, ⟨some 131, .mov (.t 16), none, false⟩, ⟨some 132, .mov (.t 3), none, false⟩, ⟨some 133, .mov (.t 4), none, false⟩, ⟨some 134, .call (.c (.func 122 [] [])) [.t 129, .t 130, .t 131, .t 132, .t 133], none, false⟩] [0, 2, 3, 4, 10, 11, 16]) (.reg [⟨some 135, .mov (.t 16), none, false⟩, ⟨some 136, .bin .add (.t 135) (.c (.int .i64 1)), none, false⟩, ⟨some 1, .mov (.t 136), none, false⟩] [0, 1, 2, 3, 4, 10, 11]))) (.seq (.reg [⟨some 137, .mov (.t 19), none, false⟩, ⟨some 138, .mov (.t 20), none, false⟩, ⟨some 139, .bin .geq (.t 137) (.t 138), none, false⟩, ⟨some 10, .mov (.t 139), none, false⟩] [0, 1, 2, 3, 4, 10, 11, 16]) (.seq (.reg [⟨some 140, .mov (.t 0), none, false⟩, ⟨some 141, .mov (.t 16), none, false⟩, ⟨some 142, .bin .add (.t 141) (.c (.int .i64 1)), none, false⟩, ⟨some 143, .mov (.t 2), none, false⟩, ⟨some 144, .mov (.t 3), none, false⟩, ⟨some 145, .mov (.t 4), none, false⟩, ⟨some 146, .call (.c (.func 122 [] [])) [.t 140, .t 142, .t 143, .t 144, .t 145], none, false⟩] [0, 1, 3, 4, 10, 11, 16]) (.reg [⟨some 147, .mov (.t 16), none, false⟩, ⟨some 2, .mov (.t 147), none, false⟩] [0, 1, 2, 3, 4, 10, 11]))))
theorem lp122_eq : lp122_0 = .block 1 (.seq q1 (.seq q2 (.seq q3 (.seq q4 (.seq q5 (.seq q6 (.seq q7 (.seq q8 (.seq q9 (.seq q10 (.seq q11 (.seq q12 q13)))))))))))) := rfl
section
variable {H : ZY} {r g n a b Yz len : Nat} {wb wp : Bool} (hr : r < H.length) (hn : n ≤ 1000000) (hab : a < b) (hb : b ≤ n) (d : Array V) (hd : d.size = n)
include hr hn hab hb hd
theorem st1 (hlen : len = b - a) (ex : Env) (R : XC) : C X (.seq q1 R) ((0, rw_ r g n) :: (1, .int .i64 a) :: (2, .int .i64 b) :: (3, .int .i64 Yz) :: (4, .func 98 [] []) :: (10, .bool wb) :: (11, .bool wp) :: ex) (hp H r g d) = C X R ((0, rw_ r g n) :: (1, .int .i64 a) :: (2, .int .i64 b) :: (3, .int .i64 Yz) :: (4, .func 98 [] []) :: (10, .bool wb) :: (11, .bool wp) :: (12, .int .i64 len) :: []) (hp H r g d) := by
  have w1 : IntKind.i64.wrap ((b : Int) - a) = (len : Int) := (by rw [wrap64 _ (by omega) (by omega)]; omega)
  unfold q1
  rw [Ze (by simp [ZN, ZE, ZG, ZH, Zy, Zj, Zw, Zm, Zo, Zb, Zc, Zn, Zz, ZA, ZI, ↓Zl, Zx, Zk, ZF, Zq, Zp, ZZ, ZD, Yk, put, lk, Od.v, Za, Zf, Zu, Yn, Yc, Yd, Ye, Yo, Yl, DV.isU, DV.cells, hget, ZO, Yb, ZP, Zv, splice, DV.one, ZQ, mat, Ya, Ym, w1]; exact ⟨rfl, rfl⟩)]
  simp [Za, lk]
theorem st2n (hs : 12 < len) (ex : Env) (R : XC) : C X (.seq q2 R) ((0, rw_ r g n) :: (1, .int .i64 a) :: (2, .int .i64 b) :: (3, .int .i64 Yz) :: (4, .func 98 [] []) :: (10, .bool wb) :: (11, .bool wp) :: (12, .int .i64 len) :: ex) (hp H r g d) = C X R ((0, rw_ r g n) :: (1, .int .i64 a) :: (2, .int .i64 b) :: (3, .int .i64 Yz) :: (4, .func 98 [] []) :: (10, .bool wb) :: (11, .bool wp) :: (12, .int .i64 len) :: (25, .bool false) :: []) (hp H r g d) := by
  have w2 : ¬ (len : Int) ≤ 12 := by omega
  unfold q2
  rw [ZB]
  rw [Ze (by simp [ZN, ZE, ZG, ZH, Zy, Zj, Zw, Zm, Zo, Zb, Zc, Zn, Zz, ZA, ZI, ↓Zl, Zx, Zk, ZF, Zq, Zp, ZZ, ZD, Yk, put, lk, Od.v, Za, Zf, Zu, Yn, Yc, Yd, Ye, Yo, Yl, DV.isU, DV.cells, hget, ZO, Yb, ZP, Zv, splice, DV.one, ZQ, mat, Ya, Ym, w2]; exact ⟨rfl, rfl⟩)]
  rw [ZR (by simp [lk, Za, Od.v]; exact rfl), Zp, ZJ]
  simp [Za, lk]
theorem st3s (hs : Yz = 0) (ex : Env) (R : XC) : ∃ e', C X (.seq q3 R) ((0, rw_ r g n) :: (1, .int .i64 a) :: (2, .int .i64 b) :: (3, .int .i64 Yz) :: (4, .func 98 [] []) :: (10, .bool wb) :: (11, .bool wp) :: (12, .int .i64 len) :: ex) (hp H r g d) = some (.ret, e', hp H r g (Go.Sort.heapSort lt d a b)) := by
  have e := run132 (H := H) (r := r) (g := g) (n := n) (a := a) (b := b) hr hn hab hb d hd
  subst hs
  unfold q3
  rw [show ((0 : Nat) : Int) = 0 from rfl]
  (repeat (first | rw [ZB] | rw [Ze (by simp [ZN, ZE, ZG, ZH, Zy, Zj, Zw, Zm, Zo, Zb, Zc, Zn, Zz, ZA, ZI, ↓Zl, Zx, Zk, ZF, Zq, Zp, ZZ, ZD, Yk, put, lk, Od.v, Za, Zf, Zu, Yn, Yc, Yd, Ye, Yo, Yl, DV.isU, DV.cells, hget, ZO, Yb, ZP, Zv, splice, DV.one, ZQ, mat, Ya, Ym, e]; exact ⟨rfl, rfl⟩)] | rw [ZR (by simp [lk, Za, Od.v, e]; exact rfl)] | rw [Zq] | rw [Zp] | rw [ZJ] | rw [ZU] | rw [ZK] | rw [ZT] | rw [ZM] | rw [ZL] | rw [ZC] | rw [Zs] | rw [Zt] | rw [Zi (by decide)] | rw [Zr] | rw [Zg] | rw [Zh] | rw [Zd (by decide)] | rw [ZX] | rw [ZV (by simp [ZN, ZE, ZG, ZH, Zy, Zj, Zw, Zm, Zo, Zb, Zc, Zn, Zz, ZA, ZI, ↓Zl, Zx, Zk, ZF, Zq, Zp, ZZ, ZD, Yk, put, lk, Od.v, Za, Zf, Zu, Yn, Yc, Yd, Ye, Yo, Yl, DV.isU, DV.cells, hget, ZO, Yb, ZP, Zv, splice, DV.one, ZQ, mat, Ya, Ym, e]; exact ⟨rfl, rfl⟩)] | rw [ZW (by simp [lk, Za, Od.v, e]; exact rfl)] | rw [ZS]))
  exact ⟨_, rfl⟩
theorem st3n (hs : Yz ≠ 0) (ex : Env) (R : XC) : C X (.seq q3 R) ((0, rw_ r g n) :: (1, .int .i64 a) :: (2, .int .i64 b) :: (3, .int .i64 Yz) :: (4, .func 98 [] []) :: (10, .bool wb) :: (11, .bool wp) :: (12, .int .i64 len) :: ex) (hp H r g d) = C X R ((0, rw_ r g n) :: (1, .int .i64 a) :: (2, .int .i64 b) :: (3, .int .i64 Yz) :: (4, .func 98 [] []) :: (10, .bool wb) :: (11, .bool wp) :: (12, .int .i64 len) :: (32, .bool false) :: []) (hp H r g d) := by
  have w2 : ((Yz : Int) == 0) = false := by simpa using hs
  unfold q3
  rw [ZB]
  rw [Ze (by simp [ZN, ZE, ZG, ZH, Zy, Zj, Zw, Zm, Zo, Zb, Zc, Zn, Zz, ZA, ZI, ↓Zl, Zx, Zk, ZF, Zq, Zp, ZZ, ZD, Yk, put, lk, Od.v, Za, Zf, Zu, Yn, Yc, Yd, Ye, Yo, Yl, DV.isU, DV.cells, hget, ZO, Yb, ZP, Zv, splice, DV.one, ZQ, mat, Ya, Ym, w2]; exact ⟨rfl, rfl⟩)]
  rw [ZR (by simp [lk, Za, Od.v]; exact rfl), Zp, ZJ]
  simp [Za, lk]
theorem st4 (hl0 : Yz ≠ 0) (hl : Yz ≤ 64) (hlen : b - a < 256) (ex : Env) : ∃ l ex', ∀ R, C X (.seq q4 R) ((0, rw_ r g n) :: (1, .int .i64 a) :: (2, .int .i64 b) :: (3, .int .i64 Yz) :: (4, .func 98 [] []) :: (10, .bool wb) :: (11, .bool wp) :: (12, .int .i64 len) :: ex) (hp H r g d) =
    C X R ((0, rw_ r g n) :: (1, .int .i64 a) :: (2, .int .i64 b) :: (3, .int .i64 (if !wb then Yz - 1 else Yz : Nat)) :: (4, .func 98 [] []) :: (10, .bool wb) :: (11, .bool wp) :: (12, .int .i64 len) :: ex') (hp (H ++ l) r g (if !wb then Go.Sort.breakPatterns d a b else d)) := by
  cases wb
  · obtain ⟨l, e⟩ := run133 (H := H) (r := r) (g := g) (n := n) (a := a) (b := b) hr hn hab hb hlen d hd
    obtain ⟨L, hL⟩ : ∃ L, L = Yz - 1 := ⟨_, rfl⟩
    have w1 : IntKind.i64.wrap ((Yz : Int) - 1) = (L : Int) := (by rw [wrap64 _ (by omega) (by omega)]; omega)
    refine ⟨l, [], fun R => ?_⟩
    unfold q4
    rw [ZB]
    rw [Ze (by simp [ZN, ZE, ZG, ZH, Zy, Zj, Zw, Zm, Zo, Zb, Zc, Zn, Zz, ZA, ZI, ↓Zl, Zx, Zk, ZF, Zq, Zp, ZZ, ZD, Yk, put, lk, Od.v, Za, Zf, Zu, Yn, Yc, Yd, Ye, Yo, Yl, DV.isU, DV.cells, hget, ZO, Yb, ZP, Zv, splice, DV.one, ZQ, mat, Ya, Ym]; exact ⟨rfl, rfl⟩)]
    rw [ZR (by simp [lk, Za, Od.v]; exact rfl), Zq, ZB]
    rw [Ze (by simp [ZN, ZE, ZG, ZH, Zy, Zj, Zw, Zm, Zo, Zb, Zc, Zn, Zz, ZA, ZI, ↓Zl, Zx, Zk, ZF, Zq, Zp, ZZ, ZD, Yk, put, lk, Od.v, Za, Zf, Zu, Yn, Yc, Yd, Ye, Yo, Yl, DV.isU, DV.cells, hget, ZO, Yb, ZP, Zv, splice, DV.one, ZQ, mat, Ya, Ym, e]; exact ⟨rfl, rfl⟩)]
    rw [Ze (by simp [ZN, ZE, ZG, ZH, Zy, Zj, Zw, Zm, Zo, Zb, Zc, Zn, Zz, ZA, ZI, ↓Zl, Zx, Zk, ZF, Zq, Zp, ZZ, ZD, Yk, put, lk, Od.v, Za, Zf, Zu, Yn, Yc, Yd, Ye, Yo, Yl, DV.isU, DV.cells, hget, ZO, Yb, ZP, Zv, splice, DV.one, ZQ, mat, Ya, Ym, w1]; exact ⟨rfl, rfl⟩)]
    simp [Za, lk, hL]
  · refine ⟨[], [(39, .bool false)], fun R => ?_⟩
    unfold q4
    rw [ZB]
    rw [Ze (by simp [ZN, ZE, ZG, ZH, Zy, Zj, Zw, Zm, Zo, Zb, Zc, Zn, Zz, ZA, ZI, ↓Zl, Zx, Zk, ZF, Zq, Zp, ZZ, ZD, Yk, put, lk, Od.v, Za, Zf, Zu, Yn, Yc, Yd, Ye, Yo, Yl, DV.isU, DV.cells, hget, ZO, Yb, ZP, Zv, splice, DV.one, ZQ, mat, Ya, Ym]; exact ⟨rfl, rfl⟩)]
    rw [ZR (by simp [lk, Za, Od.v]; exact rfl), Zp, ZJ]
    simp [Za, lk]
theorem st5 (ex : Env) (R : XC) : C X (.seq q5 R) ((0, rw_ r g n) :: (1, .int .i64 a) :: (2, .int .i64 b) :: (3, .int .i64 Yz) :: (4, .func 98 [] []) :: (10, .bool wb) :: (11, .bool wp) :: (12, .int .i64 len) :: ex) (hp H r g d) = C X R ((0, rw_ r g n) :: (1, .int .i64 a) :: (2, .int .i64 b) :: (3, .int .i64 Yz) :: (4, .func 98 [] []) :: (10, .bool wb) :: (11, .bool wp) :: (12, .int .i64 len) :: (13, .int .i64 (Go.Sort.choosePivot lt d a b).1) :: (14, .int .i64 (hintN (Go.Sort.choosePivot lt d a b).2)) :: []) (hp H r g d) := by
  have e := (run134 (H := H) (r := r) (g := g) (n := n) (a := a) (b := b) hr hn hab hb d hd).1
  generalize Go.Sort.choosePivot lt d a b = o at e ⊢
  unfold q5
  rw [Ze (by simp [ZN, ZE, ZG, ZH, Zy, Zj, Zw, Zm, Zo, Zb, Zc, Zn, Zz, ZA, ZI, ↓Zl, Zx, Zk, ZF, Zq, Zp, ZZ, ZD, Yk, put, lk, Od.v, Za, Zf, Zu, Yn, Yc, Yd, Ye, Yo, Yl, DV.isU, DV.cells, hget, ZO, Yb, ZP, Zv, splice, DV.one, ZQ, mat, Ya, Ym, e]; exact ⟨rfl, rfl⟩)]
  simp [Za, lk]
theorem st6 {p : Nat} (hp1 : a ≤ p) (hp2 : p < b) (hint : Go.Sort.Hint) (ex : Env) : ∃ ex', ∀ R, C X (.seq q6 R) ((0, rw_ r g n) :: (1, .int .i64 a) :: (2, .int .i64 b) :: (3, .int .i64 Yz) :: (4, .func 98 [] []) :: (10, .bool wb) :: (11, .bool wp) :: (12, .int .i64 len) :: (13, .int .i64 p) :: (14, .int .i64 (hintN hint)) :: ex) (hp H r g d) =
    C X R ((0, rw_ r g n) :: (1, .int .i64 a) :: (2, .int .i64 b) :: (3, .int .i64 Yz) :: (4, .func 98 [] []) :: (10, .bool wb) :: (11, .bool wp) :: (12, .int .i64 len) :: (13, .int .i64 (if hint = .decreasing then (b - 1) - (p - a) else p : Nat)) :: (14, .int .i64 (hintN (if hint = .decreasing then .increasing else hint))) :: ex') (hp H r g (if hint = .decreasing then Go.Sort.reverseRange d a b else d)) := by
  by_cases hh : hint = .decreasing
  · have e := run135 (H := H) (r := r) (g := g) (n := n) (a := a) (b := b) hr hn hab hb d hd
    subst hh
    obtain ⟨B1, hB1⟩ : ∃ B1, B1 = b - 1 := ⟨_, rfl⟩
    obtain ⟨P1, hP1⟩ : ∃ P1, P1 = p - a := ⟨_, rfl⟩
    obtain ⟨P2, hP2⟩ : ∃ P2, P2 = B1 - P1 := ⟨_, rfl⟩
    have w1 : IntKind.i64.wrap ((b : Int) - 1) = (B1 : Int) := (by rw [wrap64 _ (by omega) (by omega)]; omega)
    have w2 : IntKind.i64.wrap ((p : Int) - a) = (P1 : Int) := (by rw [wrap64 _ (by omega) (by omega)]; omega)
    have w3 : IntKind.i64.wrap ((B1 : Int) - P1) = (P2 : Int) := (by rw [wrap64 _ (by omega) (by omega)]; omega)
    refine ⟨[], fun R => ?_⟩
    rw [if_pos rfl, if_pos rfl, if_pos rfl, ← hB1, ← hP1, ← hP2]
    rw [show hintN .decreasing = 2 from rfl, show hintN .increasing = 1 from rfl]
    unfold q6
    rw [ZB]
    rw [Ze (by simp [ZN, ZE, ZG, ZH, Zy, Zj, Zw, Zm, Zo, Zb, Zc, Zn, Zz, ZA, ZI, ↓Zl, Zx, Zk, ZF, Zq, Zp, ZZ, ZD, Yk, put, lk, Od.v, Za, Zf, Zu, Yn, Yc, Yd, Ye, Yo, Yl, DV.isU, DV.cells, hget, ZO, Yb, ZP, Zv, splice, DV.one, ZQ, mat, Ya, Ym]; exact ⟨rfl, rfl⟩)]
    rw [ZR (by simp [lk, Za, Od.v]; exact rfl), Zq, ZB]
    rw [Ze (by simp [ZN, ZE, ZG, ZH, Zy, Zj, Zw, Zm, Zo, Zb, Zc, Zn, Zz, ZA, ZI, ↓Zl, Zx, Zk, ZF, Zq, Zp, ZZ, ZD, Yk, put, lk, Od.v, Za, Zf, Zu, Yn, Yc, Yd, Ye, Yo, Yl, DV.isU, DV.cells, hget, ZO, Yb, ZP, Zv, splice, DV.one, ZQ, mat, Ya, Ym, e]; exact ⟨rfl, rfl⟩)]
    rw [ZB]
    rw [Ze (by simp [ZN, ZE, ZG, ZH, Zy, Zj, Zw, Zm, Zo, Zb, Zc, Zn, Zz, ZA, ZI, ↓Zl, Zx, Zk, ZF, Zq, Zp, ZZ, ZD, Yk, put, lk, Od.v, Za, Zf, Zu, Yn, Yc, Yd, Ye, Yo, Yl, DV.isU, DV.cells, hget, ZO, Yb, ZP, Zv, splice, DV.one, ZQ, mat, Ya, Ym, w1, w2, w3]; exact ⟨rfl, rfl⟩)]
    rw [Ze (by simp [ZN, ZE, ZG, ZH, Zy, Zj, Zw, Zm, Zo, Zb, Zc, Zn, Zz, ZA, ZI, ↓Zl, Zx, Zk, ZF, Zq, Zp, ZZ, ZD, Yk, put, lk, Od.v, Za, Zf, Zu, Yn, Yc, Yd, Ye, Yo, Yl, DV.isU, DV.cells, hget, ZO, Yb, ZP, Zv, splice, DV.one, ZQ, mat, Ya, Ym]; exact ⟨rfl, rfl⟩)]
    simp [Za, lk]
  · have hne : (hintN hint == 2) = false := by cases hint <;> first | rfl | exact absurd rfl hh
    refine ⟨[(56, .bool false)], fun R => ?_⟩
    rw [if_neg hh, if_neg hh, if_neg hh]
    unfold q6
    rw [ZB]
    rw [Ze (by simp [ZN, ZE, ZG, ZH, Zy, Zj, Zw, Zm, Zo, Zb, Zc, Zn, Zz, ZA, ZI, ↓Zl, Zx, Zk, ZF, Zq, Zp, ZZ, ZD, Yk, put, lk, Od.v, Za, Zf, Zu, Yn, Yc, Yd, Ye, Yo, Yl, DV.isU, DV.cells, hget, ZO, Yb, ZP, Zv, splice, DV.one, ZQ, mat, Ya, Ym, hne]; exact ⟨rfl, rfl⟩)]
    rw [ZR (by simp [lk, Za, Od.v]; exact rfl), Zp, ZJ]
    simp [Za, lk]
theorem st7 {p : Nat} (hint : Go.Sort.Hint) (ex : Env) :
    (∃ e', (wb && wp && decide (hint = .increasing)) = true ∧ (Go.Sort.partialInsertionSort lt d a b).2 = true ∧ ∀ R, C X (.seq q7 R) ((0, rw_ r g n) :: (1, .int .i64 a) :: (2, .int .i64 b) :: (3, .int .i64 Yz) :: (4, .func 98 [] []) :: (10, .bool wb) :: (11, .bool wp) :: (12, .int .i64 len) :: (13, .int .i64 p) :: (14, .int .i64 (hintN hint)) :: ex) (hp H r g d) = some (.ret, e', hp H r g (Go.Sort.partialInsertionSort lt d a b).1)) ∨
    (∃ ex', ((wb && wp && decide (hint = .increasing)) = true → (Go.Sort.partialInsertionSort lt d a b).2 = false) ∧ ∀ R, C X (.seq q7 R) ((0, rw_ r g n) :: (1, .int .i64 a) :: (2, .int .i64 b) :: (3, .int .i64 Yz) :: (4, .func 98 [] []) :: (10, .bool wb) :: (11, .bool wp) :: (12, .int .i64 len) :: (13, .int .i64 p) :: (14, .int .i64 (hintN hint)) :: ex) (hp H r g d) =
      C X R ((0, rw_ r g n) :: (1, .int .i64 a) :: (2, .int .i64 b) :: (3, .int .i64 Yz) :: (4, .func 98 [] []) :: (10, .bool wb) :: (11, .bool wp) :: (12, .int .i64 len) :: (13, .int .i64 p) :: ex') (hp H r g (if (wb && wp && decide (hint = .increasing)) = true then (Go.Sort.partialInsertionSort lt d a b).1 else d))) := by
  have e := (run136 (H := H) (r := r) (g := g) (n := n) (a := a) (b := b) hr hn hab hb d hd).1
  have hi : (hintN hint == 1) = decide (hint = .increasing) := by cases hint <;> rfl
  cases wb
  · refine .inr ⟨[(75, .bool false)], by simp, fun R => ?_⟩
    rw [if_neg (by simp)]
    unfold q7
    rw [ZB]
    rw [Ze (by simp [ZN, ZE, ZG, ZH, Zy, Zj, Zw, Zm, Zo, Zb, Zc, Zn, Zz, ZA, ZI, ↓Zl, Zx, Zk, ZF, Zq, Zp, ZZ, ZD, Yk, put, lk, Od.v, Za, Zf, Zu, Yn, Yc, Yd, Ye, Yo, Yl, DV.isU, DV.cells, hget, ZO, Yb, ZP, Zv, splice, DV.one, ZQ, mat, Ya, Ym]; exact ⟨rfl, rfl⟩)]
    rw [ZR (by simp [lk, Za, Od.v]; exact rfl), Zp, ZJ]
    simp [Za, lk]
  cases wp
  · refine .inr ⟨[(75, .bool false)], by simp, fun R => ?_⟩
    rw [if_neg (by simp)]
    unfold q7
    rw [ZB]
    rw [Ze (by simp [ZN, ZE, ZG, ZH, Zy, Zj, Zw, Zm, Zo, Zb, Zc, Zn, Zz, ZA, ZI, ↓Zl, Zx, Zk, ZF, Zq, Zp, ZZ, ZD, Yk, put, lk, Od.v, Za, Zf, Zu, Yn, Yc, Yd, Ye, Yo, Yl, DV.isU, DV.cells, hget, ZO, Yb, ZP, Zv, splice, DV.one, ZQ, mat, Ya, Ym]; exact ⟨rfl, rfl⟩)]
    rw [ZR (by simp [lk, Za, Od.v]; exact rfl), Zp, ZJ]
    simp [Za, lk]
  cases hh : decide (hint = .increasing)
  · rw [hh] at hi
    refine .inr ⟨[(75, .bool false)], by simp, fun R => ?_⟩
    rw [if_neg (by simp)]
    unfold q7
    rw [ZB]
    rw [Ze (by simp [ZN, ZE, ZG, ZH, Zy, Zj, Zw, Zm, Zo, Zb, Zc, Zn, Zz, ZA, ZI, ↓Zl, Zx, Zk, ZF, Zq, Zp, ZZ, ZD, Yk, put, lk, Od.v, Za, Zf, Zu, Yn, Yc, Yd, Ye, Yo, Yl, DV.isU, DV.cells, hget, ZO, Yb, ZP, Zv, splice, DV.one, ZQ, mat, Ya, Ym, hi]; exact ⟨rfl, rfl⟩)]
    rw [ZR (by simp [lk, Za, Od.v]; exact rfl), Zp, ZJ]
    simp [Za, lk]
  · rw [hh] at hi
    cases hf : (Go.Sort.partialInsertionSort lt d a b).2
    · rw [hf] at e
      refine .inr ⟨[(80, .bool false)], fun _ => rfl, fun R => ?_⟩
      rw [if_pos (by simp)]
      unfold q7
      rw [ZB]
      rw [Ze (by simp [ZN, ZE, ZG, ZH, Zy, Zj, Zw, Zm, Zo, Zb, Zc, Zn, Zz, ZA, ZI, ↓Zl, Zx, Zk, ZF, Zq, Zp, ZZ, ZD, Yk, put, lk, Od.v, Za, Zf, Zu, Yn, Yc, Yd, Ye, Yo, Yl, DV.isU, DV.cells, hget, ZO, Yb, ZP, Zv, splice, DV.one, ZQ, mat, Ya, Ym, hi]; exact ⟨rfl, rfl⟩)]
      rw [ZR (by simp [lk, Za, Od.v]; exact rfl), Zq, ZB]
      rw [Ze (by simp [ZN, ZE, ZG, ZH, Zy, Zj, Zw, Zm, Zo, Zb, Zc, Zn, Zz, ZA, ZI, ↓Zl, Zx, Zk, ZF, Zq, Zp, ZZ, ZD, Yk, put, lk, Od.v, Za, Zf, Zu, Yn, Yc, Yd, Ye, Yo, Yl, DV.isU, DV.cells, hget, ZO, Yb, ZP, Zv, splice, DV.one, ZQ, mat, Ya, Ym, e]; exact ⟨rfl, rfl⟩)]
      rw [ZR (by simp [lk, Za, Od.v]; exact rfl), Zp, ZJ]
      simp [Za, lk]
    · rw [hf] at e
      refine .inl ⟨Za [0, 1, 2, 3, 4, 10, 11, 12, 13, 80] [(80, .bool true), (0, rw_ r g n), (1, .int .i64 a), (2, .int .i64 b), (3, .int .i64 Yz), (4, .func 98 [] []), (10, .bool true), (11, .bool true), (12, .int .i64 len), (13, .int .i64 p)], by simp, rfl, fun R => ?_⟩
      unfold q7
      rw [ZB]
      rw [Ze (by simp [ZN, ZE, ZG, ZH, Zy, Zj, Zw, Zm, Zo, Zb, Zc, Zn, Zz, ZA, ZI, ↓Zl, Zx, Zk, ZF, Zq, Zp, ZZ, ZD, Yk, put, lk, Od.v, Za, Zf, Zu, Yn, Yc, Yd, Ye, Yo, Yl, DV.isU, DV.cells, hget, ZO, Yb, ZP, Zv, splice, DV.one, ZQ, mat, Ya, Ym, hi]; exact ⟨rfl, rfl⟩)]
      rw [ZR (by simp [lk, Za, Od.v]; exact rfl), Zq, ZB]
      rw [Ze (by simp [ZN, ZE, ZG, ZH, Zy, Zj, Zw, Zm, Zo, Zb, Zc, Zn, Zz, ZA, ZI, ↓Zl, Zx, Zk, ZF, Zq, Zp, ZZ, ZD, Yk, put, lk, Od.v, Za, Zf, Zu, Yn, Yc, Yd, Ye, Yo, Yl, DV.isU, DV.cells, hget, ZO, Yb, ZP, Zv, splice, DV.one, ZQ, mat, Ya, Ym, e]; exact ⟨rfl, rfl⟩)]
      rw [ZR (by simp [lk, Za, Od.v]; exact rfl), Zq, ZU]
      simp [Za, lk]
theorem st8y {p : Nat} (hp2 : p < b) (ha : 0 < a) (hlt : lt (el d (a - 1)) (el d p) = false) (ex : Env) (R : XC) :
    C X (.seq q8 R) ((0, rw_ r g n) :: (1, .int .i64 a) :: (2, .int .i64 b) :: (3, .int .i64 Yz) :: (4, .func 98 [] []) :: (10, .bool wb) :: (11, .bool wp) :: (12, .int .i64 len) :: (13, .int .i64 p) :: ex) (hp H r g d) = some (.exit 1, (0, rw_ r g n) :: (1, .int .i64 (Go.Sort.partitionEqual lt d a b p).1) :: (2, .int .i64 b) :: (3, .int .i64 Yz) :: (4, .func 98 [] []) :: (10, .bool wb) :: (11, .bool wp) :: [], hp H r g (Go.Sort.partitionEqual lt d a b p).2) := by
  have e := run137 (H := H) (r := r) (g := g) (n := n) (a := a) (b := b) (p := p) hr hn hab hb (by omega) d hd
  obtain ⟨A, hA⟩ : ∃ A, A = a - 1 := ⟨_, rfl⟩
  rw [← hA] at hlt
  have q := lt_neg hlt
  have w1 : IntKind.i64.wrap ((a : Int) - 1) = (A : Int) := (by rw [wrap64 _ (by omega) (by omega)]; omega)
  have u1 : A < n := by omega
  have u2 : p < n := by omega
  have u3 : (0 : Int) < a := by omega
  generalize Go.Sort.partitionEqual lt d a b p = o at e ⊢
  unfold q8
  rw [ZB]
  rw [Ze (by simp [ZN, ZE, ZG, ZH, Zy, Zj, Zw, Zm, Zo, Zb, Zc, Zn, Zz, ZA, ZI, ↓Zl, Zx, Zk, ZF, Zq, Zp, ZZ, ZD, Yk, put, lk, Od.v, Za, Zf, Zu, Yn, Yc, Yd, Ye, Yo, Yl, DV.isU, DV.cells, hget, ZO, Yb, ZP, Zv, splice, DV.one, ZQ, mat, Ya, Ym, ha, u3, w1, u1, u2, hr, hd, Yy, rdS, run98, q]; exact ⟨rfl, rfl⟩)]
  rw [ZR (by simp [lk, Za, Od.v]; exact rfl), Zq, ZB]
  rw [Ze (by simp [ZN, ZE, ZG, ZH, Zy, Zj, Zw, Zm, Zo, Zb, Zc, Zn, Zz, ZA, ZI, ↓Zl, Zx, Zk, ZF, Zq, Zp, ZZ, ZD, Yk, put, lk, Od.v, Za, Zf, Zu, Yn, Yc, Yd, Ye, Yo, Yl, DV.isU, DV.cells, hget, ZO, Yb, ZP, Zv, splice, DV.one, ZQ, mat, Ya, Ym, e]; exact ⟨rfl, rfl⟩)]
  rw [ZB]
  rw [Ze (by simp [ZN, ZE, ZG, ZH, Zy, Zj, Zw, Zm, Zo, Zb, Zc, Zn, Zz, ZA, ZI, ↓Zl, Zx, Zk, ZF, Zq, Zp, ZZ, ZD, Yk, put, lk, Od.v, Za, Zf, Zu, Yn, Yc, Yd, Ye, Yo, Yl, DV.isU, DV.cells, hget, ZO, Yb, ZP, Zv, splice, DV.one, ZQ, mat, Ya, Ym]; exact ⟨rfl, rfl⟩)]
  rw [ZK]
  simp [Za, lk]
theorem st8n {p : Nat} (hp2 : p < b) (hc : 0 < a → lt (el d (a - 1)) (el d p) = true) (ex : Env) (R : XC) :
    C X (.seq q8 R) ((0, rw_ r g n) :: (1, .int .i64 a) :: (2, .int .i64 b) :: (3, .int .i64 Yz) :: (4, .func 98 [] []) :: (10, .bool wb) :: (11, .bool wp) :: (12, .int .i64 len) :: (13, .int .i64 p) :: ex) (hp H r g d) = C X R ((0, rw_ r g n) :: (1, .int .i64 a) :: (2, .int .i64 b) :: (3, .int .i64 Yz) :: (4, .func 98 [] []) :: (10, .bool wb) :: (11, .bool wp) :: (12, .int .i64 len) :: (13, .int .i64 p) :: (97, .bool false) :: []) (hp H r g d) := by
  by_cases ha : 0 < a
  · obtain ⟨A, hA⟩ : ∃ A, A = a - 1 := ⟨_, rfl⟩
    have hlt := hc ha
    rw [← hA] at hlt
    have q := lt_pos hlt
    have w1 : IntKind.i64.wrap ((a : Int) - 1) = (A : Int) := (by rw [wrap64 _ (by omega) (by omega)]; omega)
    have u1 : A < n := by omega
    have u2 : p < n := by omega
    have u3 : (0 : Int) < a := by omega
    unfold q8
    rw [ZB]
    rw [Ze (by simp [ZN, ZE, ZG, ZH, Zy, Zj, Zw, Zm, Zo, Zb, Zc, Zn, Zz, ZA, ZI, ↓Zl, Zx, Zk, ZF, Zq, Zp, ZZ, ZD, Yk, put, lk, Od.v, Za, Zf, Zu, Yn, Yc, Yd, Ye, Yo, Yl, DV.isU, DV.cells, hget, ZO, Yb, ZP, Zv, splice, DV.one, ZQ, mat, Ya, Ym, ha, u3, w1, u1, u2, hr, hd, Yy, rdS, run98, q]; exact ⟨rfl, rfl⟩)]
    rw [ZR (by simp [lk, Za, Od.v]; exact rfl), Zp, ZJ]
    simp [Za, lk]
  · have u3 : ¬ (0 : Int) < a := by omega
    unfold q8
    rw [ZB]
    rw [Ze (by simp [ZN, ZE, ZG, ZH, Zy, Zj, Zw, Zm, Zo, Zb, Zc, Zn, Zz, ZA, ZI, ↓Zl, Zx, Zk, ZF, Zq, Zp, ZZ, ZD, Yk, put, lk, Od.v, Za, Zf, Zu, Yn, Yc, Yd, Ye, Yo, Yl, DV.isU, DV.cells, hget, ZO, Yb, ZP, Zv, splice, DV.one, ZQ, mat, Ya, Ym, ha, u3]; exact ⟨rfl, rfl⟩)]
    rw [ZR (by simp [lk, Za, Od.v]; exact rfl), Zp, ZJ]
    simp [Za, lk]
end
theorem fin_grow {H : ZY} {r g : Nat} (hr : r < H.length) (d d' : Array V) (l : ZY) : ∃ l', fin (hp H r g d) (hp (H ++ l) r g d') [] = (.tup [], hp (H ++ l') r g d') := by
  have h1 : (hp (H ++ l) r g d').take (hp H r g d).length = hp H r g d' := by
    simp only [hp]
    rw [List.set_append_left _ _ hr, List.take_append_of_le_length (by simp), List.take_of_length_le (by simp)]
  rw [fin, h1]
  · split
    · rename_i h2
      simp only [fzT]
      exact ⟨[], by rw [List.append_nil, h2]⟩
    · exact ⟨l, rfl⟩
  · intro d h; cases h
/-- A call of pdqsort, and what it leaves. -/
def Pd (n r g : Nat) (a b Yz : Nat) (H : ZY) (d : Array V) : Prop :=
  ∃ l, E X 122 [rw_ r g n, .int .i64 a, .int .i64 b, .int .i64 Yz, .func 98 [] []] (hp H r g d) = some (.tup [], hp (H ++ l) r g (Go.Sort.pdq lt d a b Yz true true))
theorem pd_of {n r g a b Yz : Nat} {H : ZY} {d : Array V} (hr : r < H.length) (h : ∃ l e', C X (.loop lp122_0) ((0, rw_ r g n) :: (1, .int .i64 a) :: (2, .int .i64 b) :: (3, .int .i64 Yz) :: (4, .func 98 [] []) :: (10, .bool true) :: (11, .bool true) :: []) (hp H r g d) = some (.ret, e', hp (H ++ l) r g (Go.Sort.pdq lt d a b Yz true true))) : Pd n r g a b Yz H d := by
  obtain ⟨l, e', h⟩ := h
  obtain ⟨l', h2⟩ := fin_grow (g := g) hr d (Go.Sort.pdq lt d a b Yz true true) l
  refine ⟨l', ?_⟩
  rw [Yt (X := X) _ b122 _ rfl rfl]; unfold b122
  (repeat (first | rw [ZB] | rw [Ze (by simp [ZN, ZE, ZG, ZH, Zy, Zj, Zw, Zm, Zo, Zb, Zc, Zn, Zz, ZA, ZI, ↓Zl, Zx, Zk, ZF, Zq, Zp, ZZ, ZD, Yk, put, lk, Od.v, Za, Zf, Zu, Yn, Yc, Yd, Ye, Yo, Yl, DV.isU, DV.cells, hget, ZO, Yb, ZP, Zv, splice, DV.one, ZQ, mat, Ya, Ym]; exact ⟨rfl, rfl⟩)] | rw [ZR (by simp [lk, Za, Od.v]; exact rfl)] | rw [Zq] | rw [Zp] | rw [ZJ] | rw [ZU] | rw [ZK] | rw [ZT] | rw [ZM] | rw [ZL] | rw [ZC] | rw [Zs] | rw [Zt] | rw [Zi (by decide)] | rw [Zr] | rw [Zg] | rw [Zh] | rw [Zd (by decide)] | rw [ZX] | rw [ZV (by simp [ZN, ZE, ZG, ZH, Zy, Zj, Zw, Zm, Zo, Zb, Zc, Zn, Zz, ZA, ZI, ↓Zl, Zx, Zk, ZF, Zq, Zp, ZZ, ZD, Yk, put, lk, Od.v, Za, Zf, Zu, Yn, Yc, Yd, Ye, Yo, Yl, DV.isU, DV.cells, hget, ZO, Yb, ZP, Zv, splice, DV.one, ZQ, mat, Ya, Ym]; exact ⟨rfl, rfl⟩)] | rw [ZW (by simp [lk, Za, Od.v]; exact rfl)] | rw [ZS]))
  (try simp only [Za, List.map_cons, List.map_nil, lk, reduceIte, Nat.reduceEqDiff, Nat.zero_ne_one, Nat.one_ne_zero])
  rw [h]
  (repeat (first | rw [ZB] | rw [Ze (by simp [ZN, ZE, ZG, ZH, Zy, Zj, Zw, Zm, Zo, Zb, Zc, Zn, Zz, ZA, ZI, ↓Zl, Zx, Zk, ZF, Zq, Zp, ZZ, ZD, Yk, put, lk, Od.v, Za, Zf, Zu, Yn, Yc, Yd, Ye, Yo, Yl, DV.isU, DV.cells, hget, ZO, Yb, ZP, Zv, splice, DV.one, ZQ, mat, Ya, Ym]; exact ⟨rfl, rfl⟩)] | rw [ZR (by simp [lk, Za, Od.v]; exact rfl)] | rw [Zq] | rw [Zp] | rw [ZJ] | rw [ZU] | rw [ZK] | rw [ZT] | rw [ZM] | rw [ZL] | rw [ZC] | rw [Zs] | rw [Zt] | rw [Zi (by decide)] | rw [Zr] | rw [Zg] | rw [Zh] | rw [Zd (by decide)] | rw [ZX] | rw [ZV (by simp [ZN, ZE, ZG, ZH, Zy, Zj, Zw, Zm, Zo, Zb, Zc, Zn, Zz, ZA, ZI, ↓Zl, Zx, Zk, ZF, Zq, Zp, ZZ, ZD, Yk, put, lk, Od.v, Za, Zf, Zu, Yn, Yc, Yd, Ye, Yo, Yl, DV.isU, DV.cells, hget, ZO, Yb, ZP, Zv, splice, DV.one, ZQ, mat, Ya, Ym]; exact ⟨rfl, rfl⟩)] | rw [ZW (by simp [lk, Za, Od.v]; exact rfl)] | rw [ZS]))
  simp only [Yf, Yq, Option.map_some]
  rw [h2]
section
variable {H : ZY} {r g n a b Yz len : Nat} {wb wp : Bool} (hr : r < H.length) (hn : n ≤ 1000000)
theorem st12 (hr : r < H.length) (hn : n ≤ 1000000) (hab : a ≤ b) (hb : b ≤ n) (d : Array V) (hd : d.size = n) (hs : b - a ≤ 12) (R : XC) : ∃ e', C X (.seq q1 (.seq q2 R)) ((0, rw_ r g n) :: (1, .int .i64 a) :: (2, .int .i64 b) :: (3, .int .i64 Yz) :: (4, .func 98 [] []) :: (10, .bool wb) :: (11, .bool wp) :: []) (hp H r g d) = some (.ret, e', hp H r g (Go.Sort.insertionSort lt d a b)) := by
  obtain ⟨len, hlen⟩ : ∃ len, len = b - a := ⟨_, rfl⟩
  have w1 : IntKind.i64.wrap ((b : Int) - a) = (len : Int) := (by rw [wrap64 _ (by omega) (by omega)]; omega)
  have e := run131 (H := H) (r := r) (g := g) (n := n) (a := a) (b := b) hr hn hb (by omega) d hd
  have w2 : (len : Int) ≤ 12 := by omega
  unfold q1 q2
  (repeat (first | rw [ZB] | rw [Ze (by simp [ZN, ZE, ZG, ZH, Zy, Zj, Zw, Zm, Zo, Zb, Zc, Zn, Zz, ZA, ZI, ↓Zl, Zx, Zk, ZF, Zq, Zp, ZZ, ZD, Yk, put, lk, Od.v, Za, Zf, Zu, Yn, Yc, Yd, Ye, Yo, Yl, DV.isU, DV.cells, hget, ZO, Yb, ZP, Zv, splice, DV.one, ZQ, mat, Ya, Ym, w1, w2, e]; exact ⟨rfl, rfl⟩)] | rw [ZR (by simp [lk, Za, Od.v, w1, w2, e]; exact rfl)] | rw [Zq] | rw [Zp] | rw [ZJ] | rw [ZU] | rw [ZK] | rw [ZT] | rw [ZM] | rw [ZL] | rw [ZC] | rw [Zs] | rw [Zt] | rw [Zi (by decide)] | rw [Zr] | rw [Zg] | rw [Zh] | rw [Zd (by decide)] | rw [ZX] | rw [ZV (by simp [ZN, ZE, ZG, ZH, Zy, Zj, Zw, Zm, Zo, Zb, Zc, Zn, Zz, ZA, ZI, ↓Zl, Zx, Zk, ZF, Zq, Zp, ZZ, ZD, Yk, put, lk, Od.v, Za, Zf, Zu, Yn, Yc, Yd, Ye, Yo, Yl, DV.isU, DV.cells, hget, ZO, Yb, ZP, Zv, splice, DV.one, ZQ, mat, Ya, Ym, w1, w2, e]; exact ⟨rfl, rfl⟩)] | rw [ZW (by simp [lk, Za, Od.v, w1, w2, e]; exact rfl)] | rw [ZS]))
  exact ⟨_, rfl⟩
theorem st9 (hr : r < H.length) (hn : n ≤ 1000000) (hab : a < b) (hb : b ≤ n) (hlen : len = b - a) (d : Array V) (hd : d.size = n) {p : Nat} (hp2 : p < b) (ex : Env)
    {mid : Nat} {al : Bool} {d4 : Array V} (hpart : Go.Sort.partition lt d a b p = (mid, al, d4)) (h1 : a ≤ mid) (h2 : mid < b)
    (i1 : mid - a < b - mid → Pd n r g a mid Yz H d4) (i2 : ¬ mid - a < b - mid → Pd n r g (mid + 1) b Yz H d4) :
    ∃ l, C X (.seq q9 (.seq q10 (.seq q11 (.seq q12 q13)))) ((0, rw_ r g n) :: (1, .int .i64 a) :: (2, .int .i64 b) :: (3, .int .i64 Yz) :: (4, .func 98 [] []) :: (10, .bool wb) :: (11, .bool wp) :: (12, .int .i64 len) :: (13, .int .i64 p) :: ex) (hp H r g d) =
      some (.norm, (0, rw_ r g n) :: (1, .int .i64 (if mid - a < b - mid then mid + 1 else a : Nat)) :: (2, .int .i64 (if mid - a < b - mid then b else mid : Nat)) :: (3, .int .i64 Yz) :: (4, .func 98 [] []) :: (10, .bool (if mid - a < b - mid then decide (mid - a ≥ (b - a) / 8) else decide (b - mid ≥ (b - a) / 8))) :: (11, .bool al) :: [], hp (H ++ l) r g (if mid - a < b - mid then Go.Sort.pdq lt d4 a mid Yz true true else Go.Sort.pdq lt d4 (mid + 1) b Yz true true)) := by
  have e := run138 (H := H) (r := r) (g := g) (n := n) (a := a) (b := b) (p := p) hr hn hab hb (by omega) d hd
  rw [hpart] at e
  simp only at e
  obtain ⟨L, hL⟩ : ∃ L, L = mid - a := ⟨_, rfl⟩
  obtain ⟨Q, hQ⟩ : ∃ Q, Q = b - mid := ⟨_, rfl⟩
  obtain ⟨T, hT⟩ : ∃ T, T = len / 8 := ⟨_, rfl⟩
  obtain ⟨M, hM⟩ : ∃ M, M = mid + 1 := ⟨_, rfl⟩
  have w1 : IntKind.i64.wrap ((mid : Int) - a) = (L : Int) := (by rw [wrap64 _ (by omega) (by omega)]; omega)
  have w2 : IntKind.i64.wrap ((b : Int) - mid) = (Q : Int) := (by rw [wrap64 _ (by omega) (by omega)]; omega)
  have w3 : IntKind.i64.wrap ((len : Int) / 8) = (T : Int) := (by rw [wrap64 _ (by omega) (by omega)]; omega)
  have w4 : IntKind.i64.wrap ((mid : Int) + 1) = (M : Int) := (by rw [wrap64 _ (by omega) (by omega)]; omega)
  rw [← hlen, ← hL, ← hQ, ← hT, ← hM]
  rw [← hL, ← hQ] at i1 i2
  rw [← hM] at i2
  by_cases hc : L < Q
  · obtain ⟨l, e2⟩ := i1 hc
    refine ⟨l, ?_⟩
    rw [if_pos hc, if_pos hc, if_pos hc, if_pos hc]
    by_cases ht : T ≤ L
    · unfold q9 q10 q11 q12 q13
      (repeat (first | rw [ZB] | rw [Ze (by simp [ZN, ZE, ZG, ZH, Zy, Zj, Zw, Zm, Zo, Zb, Zc, Zn, Zz, ZA, ZI, ↓Zl, Zx, Zk, ZF, Zq, Zp, ZZ, ZD, Yk, put, lk, Od.v, Za, Zf, Zu, Yn, Yc, Yd, Ye, Yo, Yl, DV.isU, DV.cells, hget, ZO, Yb, ZP, Zv, splice, DV.one, ZQ, mat, Ya, Ym, e, w1, w2, w3, w4, hc, ht, e2]; exact ⟨rfl, rfl⟩)] | rw [ZR (by simp [lk, Za, Od.v, e, w1, w2, w3, w4, hc, ht, e2]; exact rfl)] | rw [Zq] | rw [Zp] | rw [ZJ] | rw [ZU] | rw [ZK] | rw [ZT] | rw [ZM] | rw [ZL] | rw [ZC] | rw [Zs] | rw [Zt] | rw [Zi (by decide)] | rw [Zr] | rw [Zg] | rw [Zh] | rw [Zd (by decide)] | rw [ZX] | rw [ZV (by simp [ZN, ZE, ZG, ZH, Zy, Zj, Zw, Zm, Zo, Zb, Zc, Zn, Zz, ZA, ZI, ↓Zl, Zx, Zk, ZF, Zq, Zp, ZZ, ZD, Yk, put, lk, Od.v, Za, Zf, Zu, Yn, Yc, Yd, Ye, Yo, Yl, DV.isU, DV.cells, hget, ZO, Yb, ZP, Zv, splice, DV.one, ZQ, mat, Ya, Ym, e, w1, w2, w3, w4, hc, ht, e2]; exact ⟨rfl, rfl⟩)] | rw [ZW (by simp [lk, Za, Od.v, e, w1, w2, w3, w4, hc, ht, e2]; exact rfl)] | rw [ZS]))
      simp [Za, lk, ht]
    · unfold q9 q10 q11 q12 q13
      (repeat (first | rw [ZB] | rw [Ze (by simp [ZN, ZE, ZG, ZH, Zy, Zj, Zw, Zm, Zo, Zb, Zc, Zn, Zz, ZA, ZI, ↓Zl, Zx, Zk, ZF, Zq, Zp, ZZ, ZD, Yk, put, lk, Od.v, Za, Zf, Zu, Yn, Yc, Yd, Ye, Yo, Yl, DV.isU, DV.cells, hget, ZO, Yb, ZP, Zv, splice, DV.one, ZQ, mat, Ya, Ym, e, w1, w2, w3, w4, hc, ht, e2]; exact ⟨rfl, rfl⟩)] | rw [ZR (by simp [lk, Za, Od.v, e, w1, w2, w3, w4, hc, ht, e2]; exact rfl)] | rw [Zq] | rw [Zp] | rw [ZJ] | rw [ZU] | rw [ZK] | rw [ZT] | rw [ZM] | rw [ZL] | rw [ZC] | rw [Zs] | rw [Zt] | rw [Zi (by decide)] | rw [Zr] | rw [Zg] | rw [Zh] | rw [Zd (by decide)] | rw [ZX] | rw [ZV (by simp [ZN, ZE, ZG, ZH, Zy, Zj, Zw, Zm, Zo, Zb, Zc, Zn, Zz, ZA, ZI, ↓Zl, Zx, Zk, ZF, Zq, Zp, ZZ, ZD, Yk, put, lk, Od.v, Za, Zf, Zu, Yn, Yc, Yd, Ye, Yo, Yl, DV.isU, DV.cells, hget, ZO, Yb, ZP, Zv, splice, DV.one, ZQ, mat, Ya, Ym, e, w1, w2, w3, w4, hc, ht, e2]; exact ⟨rfl, rfl⟩)] | rw [ZW (by simp [lk, Za, Od.v, e, w1, w2, w3, w4, hc, ht, e2]; exact rfl)] | rw [ZS]))
      simp [Za, lk, ht]
  · obtain ⟨l, e2⟩ := i2 hc
    refine ⟨l, ?_⟩
    rw [if_neg hc, if_neg hc, if_neg hc, if_neg hc]
    by_cases ht : T ≤ Q
    · unfold q9 q10 q11 q12 q13
      (repeat (first | rw [ZB] | rw [Ze (by simp [ZN, ZE, ZG, ZH, Zy, Zj, Zw, Zm, Zo, Zb, Zc, Zn, Zz, ZA, ZI, ↓Zl, Zx, Zk, ZF, Zq, Zp, ZZ, ZD, Yk, put, lk, Od.v, Za, Zf, Zu, Yn, Yc, Yd, Ye, Yo, Yl, DV.isU, DV.cells, hget, ZO, Yb, ZP, Zv, splice, DV.one, ZQ, mat, Ya, Ym, e, w1, w2, w3, w4, hc, ht, e2]; exact ⟨rfl, rfl⟩)] | rw [ZR (by simp [lk, Za, Od.v, e, w1, w2, w3, w4, hc, ht, e2]; exact rfl)] | rw [Zq] | rw [Zp] | rw [ZJ] | rw [ZU] | rw [ZK] | rw [ZT] | rw [ZM] | rw [ZL] | rw [ZC] | rw [Zs] | rw [Zt] | rw [Zi (by decide)] | rw [Zr] | rw [Zg] | rw [Zh] | rw [Zd (by decide)] | rw [ZX] | rw [ZV (by simp [ZN, ZE, ZG, ZH, Zy, Zj, Zw, Zm, Zo, Zb, Zc, Zn, Zz, ZA, ZI, ↓Zl, Zx, Zk, ZF, Zq, Zp, ZZ, ZD, Yk, put, lk, Od.v, Za, Zf, Zu, Yn, Yc, Yd, Ye, Yo, Yl, DV.isU, DV.cells, hget, ZO, Yb, ZP, Zv, splice, DV.one, ZQ, mat, Ya, Ym, e, w1, w2, w3, w4, hc, ht, e2]; exact ⟨rfl, rfl⟩)] | rw [ZW (by simp [lk, Za, Od.v, e, w1, w2, w3, w4, hc, ht, e2]; exact rfl)] | rw [ZS]))
      simp [Za, lk, ht]
    · unfold q9 q10 q11 q12 q13
      (repeat (first | rw [ZB] | rw [Ze (by simp [ZN, ZE, ZG, ZH, Zy, Zj, Zw, Zm, Zo, Zb, Zc, Zn, Zz, ZA, ZI, ↓Zl, Zx, Zk, ZF, Zq, Zp, ZZ, ZD, Yk, put, lk, Od.v, Za, Zf, Zu, Yn, Yc, Yd, Ye, Yo, Yl, DV.isU, DV.cells, hget, ZO, Yb, ZP, Zv, splice, DV.one, ZQ, mat, Ya, Ym, e, w1, w2, w3, w4, hc, ht, e2]; exact ⟨rfl, rfl⟩)] | rw [ZR (by simp [lk, Za, Od.v, e, w1, w2, w3, w4, hc, ht, e2]; exact rfl)] | rw [Zq] | rw [Zp] | rw [ZJ] | rw [ZU] | rw [ZK] | rw [ZT] | rw [ZM] | rw [ZL] | rw [ZC] | rw [Zs] | rw [Zt] | rw [Zi (by decide)] | rw [Zr] | rw [Zg] | rw [Zh] | rw [Zd (by decide)] | rw [ZX] | rw [ZV (by simp [ZN, ZE, ZG, ZH, Zy, Zj, Zw, Zm, Zo, Zb, Zc, Zn, Zz, ZA, ZI, ↓Zl, Zx, Zk, ZF, Zq, Zp, ZZ, ZD, Yk, put, lk, Od.v, Za, Zf, Zu, Yn, Yc, Yd, Ye, Yo, Yl, DV.isU, DV.cells, hget, ZO, Yb, ZP, Zv, splice, DV.one, ZQ, mat, Ya, Ym, e, w1, w2, w3, w4, hc, ht, e2]; exact ⟨rfl, rfl⟩)] | rw [ZW (by simp [lk, Za, Od.v, e, w1, w2, w3, w4, hc, ht, e2]; exact rfl)] | rw [ZS]))
      simp [Za, lk, ht]
end
theorem pdq_step {a b Yz : Nat} {wb wp : Bool} {d : Array V} (hs : ¬ b - a ≤ 12) (h0 : ¬ Yz = 0) {lim1 p mid : Nat} {hint : Go.Sort.Hint} {al : Bool} {d1 d2 d4 : Array V} {c : Nat × Go.Sort.Hint} {pi : Array V × Bool}
    (q1 : d1 = if (!wb) = true then Go.Sort.breakPatterns d a b else d) (q2 : lim1 = if (!wb) = true then Yz - 1 else Yz) (q3 : c = Go.Sort.choosePivot lt d1 a b)
    (q4 : d2 = if c.2 = .decreasing then Go.Sort.reverseRange d1 a b else d1) (q5 : p = if c.2 = .decreasing then (b - 1) - (c.1 - a) else c.1) (q6 : hint = if c.2 = .decreasing then .increasing else c.2)
    (q7 : pi = if (wb && wp && decide (hint = .increasing)) = true then Go.Sort.partialInsertionSort lt d2 a b else (d2, false)) :
    Go.Sort.pdq lt d a b Yz wb wp = if pi.2 = true then pi.1 else
      if (decide (a > 0) && !lt pi.1[a - 1]! pi.1[p]!) = true then
        (if a < (Go.Sort.partitionEqual lt pi.1 a b p).1 ∧ (Go.Sort.partitionEqual lt pi.1 a b p).1 ≤ b then Go.Sort.pdq lt (Go.Sort.partitionEqual lt pi.1 a b p).2 (Go.Sort.partitionEqual lt pi.1 a b p).1 b lim1 wb wp else (Go.Sort.partitionEqual lt pi.1 a b p).2)
      else (if a ≤ (Go.Sort.partition lt pi.1 a b p).1 ∧ (Go.Sort.partition lt pi.1 a b p).1 < b then
          (if (Go.Sort.partition lt pi.1 a b p).1 - a < b - (Go.Sort.partition lt pi.1 a b p).1 then
            Go.Sort.pdq lt (Go.Sort.pdq lt (Go.Sort.partition lt pi.1 a b p).2.2 a (Go.Sort.partition lt pi.1 a b p).1 lim1 true true) ((Go.Sort.partition lt pi.1 a b p).1 + 1) b lim1 (decide ((Go.Sort.partition lt pi.1 a b p).1 - a ≥ (b - a) / 8)) (Go.Sort.partition lt pi.1 a b p).2.1
          else Go.Sort.pdq lt (Go.Sort.pdq lt (Go.Sort.partition lt pi.1 a b p).2.2 ((Go.Sort.partition lt pi.1 a b p).1 + 1) b lim1 true true) a (Go.Sort.partition lt pi.1 a b p).1 lim1 (decide (b - (Go.Sort.partition lt pi.1 a b p).1 ≥ (b - a) / 8)) (Go.Sort.partition lt pi.1 a b p).2.1)
        else (Go.Sort.partition lt pi.1 a b p).2.2) := by
  rw [Go.Sort.pdq, if_neg hs, if_neg h0]
  simp only
  subst q1 q2 q3 q4 q5 q6 q7
  rfl
theorem pdq_run {r g n : Nat} (hn : n < 256) : ∀ (k a b Yz : Nat) (wb wp : Bool) (d : Array V) (H : ZY), b - a ≤ k → a ≤ b → b ≤ n → d.size = n → Yz ≤ 64 → r < H.length →
    (∃ l e', C X (.loop lp122_0) ((0, rw_ r g n) :: (1, .int .i64 a) :: (2, .int .i64 b) :: (3, .int .i64 Yz) :: (4, .func 98 [] []) :: (10, .bool wb) :: (11, .bool wp) :: []) (hp H r g d) = some (.ret, e', hp (H ++ l) r g (Go.Sort.pdq lt d a b Yz wb wp))) ∧ (Go.Sort.pdq lt d a b Yz wb wp).size = n := by
  intro k
  induction k using Nat.strongRecOn with
  | _ k ih =>
  intro a b Yz wb wp d H hk hab hb hd hlim hr
  by_cases hs : b - a ≤ 12
  · have hdef : Go.Sort.pdq lt d a b Yz wb wp = Go.Sort.insertionSort lt d a b := by rw [Go.Sort.pdq, if_pos hs]
    rw [hdef]
    refine ⟨?_, by rw [insertionSort_size, hd]⟩
    obtain ⟨e', h⟩ := st12 (H := H) (r := r) (g := g) (n := n) (a := a) (b := b) (Yz := Yz) (wb := wb) (wp := wp) hr (by omega) hab hb d hd hs (.seq q3 (.seq q4 (.seq q5 (.seq q6 (.seq q7 (.seq q8 (.seq q9 (.seq q10 (.seq q11 (.seq q12 q13))))))))))
    refine ⟨[], e', ?_⟩
    have hb' : C X lp122_0 ((0, rw_ r g n) :: (1, .int .i64 a) :: (2, .int .i64 b) :: (3, .int .i64 Yz) :: (4, .func 98 [] []) :: (10, .bool wb) :: (11, .bool wp) :: []) (hp H r g d) = some (.ret, e', hp H r g (Go.Sort.insertionSort lt d a b)) := by
      rw [lp122_eq, ZS, h, Zr]
    rw [Yj, hb', lp_ret, List.append_nil]
  have hab' : a < b := by omega
  have hn' : n ≤ 1000000 := by omega
  obtain ⟨len, hlen⟩ : ∃ len, len = b - a := ⟨_, rfl⟩
  have s1 := st1 (H := H) (r := r) (g := g) (n := n) (a := a) (b := b) (Yz := Yz) (wb := wb) (wp := wp) hr hn' hab' hb d hd hlen []
  have s2 := st2n (H := H) (r := r) (g := g) (n := n) (a := a) (b := b) (Yz := Yz) (len := len) (wb := wb) (wp := wp) hr hn' hab' hb d hd (by omega) []
  by_cases h0 : Yz = 0
  · have hdef : Go.Sort.pdq lt d a b Yz wb wp = Go.Sort.heapSort lt d a b := by rw [Go.Sort.pdq, if_neg hs, if_pos h0]
    rw [hdef]
    refine ⟨?_, by rw [heapSort_size, hd]⟩
    obtain ⟨e', h⟩ := st3s (H := H) (r := r) (g := g) (n := n) (a := a) (b := b) (Yz := Yz) (len := len) (wb := wb) (wp := wp) hr hn' hab' hb d hd h0 [(25, .bool false)] (.seq q4 (.seq q5 (.seq q6 (.seq q7 (.seq q8 (.seq q9 (.seq q10 (.seq q11 (.seq q12 q13)))))))))
    refine ⟨[], e', ?_⟩
    have hb' : C X lp122_0 ((0, rw_ r g n) :: (1, .int .i64 a) :: (2, .int .i64 b) :: (3, .int .i64 Yz) :: (4, .func 98 [] []) :: (10, .bool wb) :: (11, .bool wp) :: []) (hp H r g d) = some (.ret, e', hp H r g (Go.Sort.heapSort lt d a b)) := by
      rw [lp122_eq, ZS, s1, s2, h, Zr]
    rw [Yj, hb', lp_ret, List.append_nil]
  have s3 := st3n (H := H) (r := r) (g := g) (n := n) (a := a) (b := b) (Yz := Yz) (len := len) (wb := wb) (wp := wp) hr hn' hab' hb d hd h0 [(25, .bool false)]
  obtain ⟨l1, ex4, s4⟩ := st4 (H := H) (r := r) (g := g) (n := n) (a := a) (b := b) (Yz := Yz) (len := len) (wb := wb) (wp := wp) hr hn' hab' hb d hd h0 hlim (by omega) [(32, .bool false)]
  obtain ⟨d1, g1⟩ : ∃ d1, d1 = if (!wb) = true then Go.Sort.breakPatterns d a b else d := ⟨_, rfl⟩
  obtain ⟨lim1, g2⟩ : ∃ lim1, lim1 = if (!wb) = true then Yz - 1 else Yz := ⟨_, rfl⟩
  obtain ⟨c, g3⟩ : ∃ c, c = Go.Sort.choosePivot lt d1 a b := ⟨_, rfl⟩
  obtain ⟨d2, g4⟩ : ∃ d2, d2 = if c.2 = .decreasing then Go.Sort.reverseRange d1 a b else d1 := ⟨_, rfl⟩
  obtain ⟨p, g5⟩ : ∃ p, p = if c.2 = .decreasing then (b - 1) - (c.1 - a) else c.1 := ⟨_, rfl⟩
  obtain ⟨hint, g6⟩ : ∃ hint : Go.Sort.Hint, hint = if c.2 = .decreasing then .increasing else c.2 := ⟨_, rfl⟩
  obtain ⟨pi, g7⟩ : ∃ pi, pi = if (wb && wp && decide (hint = .increasing)) = true then Go.Sort.partialInsertionSort lt d2 a b else (d2, false) := ⟨_, rfl⟩
  rw [pdq_step (wp := wp) hs h0 (mid := 0) (al := true) (d4 := d) g1 g2 g3 g4 g5 g6 g7]
  have z1 : d1.size = n := by rw [g1]; split <;> simp [breakPatterns_size, hd]
  have hlim1 : lim1 ≤ 64 := by rw [g2]; split <;> omega
  have z2 : d2.size = n := by rw [g4]; split <;> simp [reverseRange_size, z1]
  rw [← g1, ← g2] at s4
  have hr1 : r < (H ++ l1).length := by simp; omega
  have s5 := st5 (H := H ++ l1) (r := r) (g := g) (n := n) (a := a) (b := b) (Yz := lim1) (len := len) (wb := wb) (wp := wp) hr1 hn' hab' hb d1 z1 ex4
  have hc := (run134 (H := H ++ l1) (r := r) (g := g) (n := n) (a := a) (b := b) hr1 hn' hab' hb d1 z1).2
  rw [← g3] at s5 hc
  obtain ⟨ex6, s6⟩ := st6 (H := H ++ l1) (r := r) (g := g) (n := n) (a := a) (b := b) (Yz := lim1) (len := len) (wb := wb) (wp := wp) hr1 hn' hab' hb d1 z1 (p := c.1) hc.1 hc.2 c.2 []
  rw [← g4, ← g5, ← g6] at s6
  have hp1 : a ≤ p ∧ p < b := by rw [g5]; split <;> omega
  have s7 := st7 (H := H ++ l1) (r := r) (g := g) (n := n) (a := a) (b := b) (Yz := lim1) (len := len) (wb := wb) (wp := wp) hr1 hn' hab' hb d2 z2 (p := p) hint ex6
  rcases s7 with ⟨e', c1, c2, s7⟩ | ⟨ex7, c1, s7⟩
  · have gp : pi = Go.Sort.partialInsertionSort lt d2 a b := by rw [g7, if_pos c1]
    rw [gp, if_pos c2]
    refine ⟨⟨l1, e', ?_⟩, (run136 (H := H ++ l1) (r := r) (g := g) (n := n) (a := a) (b := b) hr1 hn' hab' hb d2 z2).2⟩
    have hb' : C X lp122_0 ((0, rw_ r g n) :: (1, .int .i64 a) :: (2, .int .i64 b) :: (3, .int .i64 Yz) :: (4, .func 98 [] []) :: (10, .bool wb) :: (11, .bool wp) :: []) (hp H r g d) = some (.ret, e', hp (H ++ l1) r g (Go.Sort.partialInsertionSort lt d2 a b).1) := by
      rw [lp122_eq, ZS, s1, s2, s3, s4, s5, s6, s7, Zr]
    rw [Yj, hb', lp_ret]
  have gp1 : (if (wb && wp && decide (hint = .increasing)) = true then (Go.Sort.partialInsertionSort lt d2 a b).1 else d2) = pi.1 := by
    rw [g7]; split <;> rfl
  have gp2 : pi.2 = false := by
    rw [g7]; split
    · rename_i h; exact c1 h
    · rfl
  have z3 : pi.1.size = n := by
    rw [g7]; split
    · exact (run136 (H := H ++ l1) (r := r) (g := g) (n := n) (a := a) (b := b) hr1 hn' hab' hb d2 z2).2
    · exact z2
  rw [gp1] at s7
  rw [if_neg (by rw [gp2]; simp)]
  generalize pi.1 = d3 at s7 z3 ⊢
  by_cases hq : (decide (a > 0) && !lt d3[a - 1]! d3[p]!) = true
  · rw [if_pos hq]
    simp only [Bool.and_eq_true, decide_eq_true_eq, Bool.not_eq_true'] at hq
    have s8 := st8y (H := H ++ l1) (r := r) (g := g) (n := n) (a := a) (b := b) (Yz := lim1) (len := len) (wb := wb) (wp := wp) hr1 hn' hab' hb d3 z3 (p := p) hp1.2 hq.1 hq.2 ex7
    have hbd := partitionEqual_bd (p := p) hab' d3
    rw [if_pos hbd.2]
    generalize Go.Sort.partitionEqual lt d3 a b p = o at s8 hbd ⊢
    obtain ⟨mid, d4⟩ := o
    simp only at s8 hbd ⊢
    obtain ⟨⟨l2, e', hl⟩, hz⟩ := ih (b - mid) (by omega) mid b lim1 wb wp d4 (H ++ l1) (Nat.le_refl _) hbd.2.2 hb (by rw [hbd.1, z3]) hlim1 hr1
    refine ⟨⟨l1 ++ l2, e', ?_⟩, hz⟩
    have hb' : C X lp122_0 ((0, rw_ r g n) :: (1, .int .i64 a) :: (2, .int .i64 b) :: (3, .int .i64 Yz) :: (4, .func 98 [] []) :: (10, .bool wb) :: (11, .bool wp) :: []) (hp H r g d) = some (.norm, (0, rw_ r g n) :: (1, .int .i64 mid) :: (2, .int .i64 b) :: (3, .int .i64 lim1) :: (4, .func 98 [] []) :: (10, .bool wb) :: (11, .bool wp) :: [], hp (H ++ l1) r g d4) := by
      rw [lp122_eq, ZS, s1, s2, s3, s4, s5, s6, s7, s8, Zh]
    rw [Yj, hb', Yu, hl, List.append_assoc]
  · rw [if_neg hq]
    have s8 := st8n (H := H ++ l1) (r := r) (g := g) (n := n) (a := a) (b := b) (Yz := lim1) (len := len) (wb := wb) (wp := wp) hr1 hn' hab' hb d3 z3 (p := p) hp1.2 (fun ha => by
      cases h : lt (el d3 (a - 1)) (el d3 p)
      · exact absurd (by unfold el at h; simp [ha, h]) hq
      · rfl) ex7
    have hbd := partition_bd (p := p) hab' d3
    rw [if_pos hbd.2]
    obtain ⟨o, ho⟩ : ∃ o, o = Go.Sort.partition lt d3 a b p := ⟨_, rfl⟩
    rw [← ho] at hbd ⊢
    obtain ⟨mid, al, d4⟩ := o
    simp only at hbd ⊢
    have z4 : d4.size = n := by rw [hbd.1, z3]
    have ia := ih (mid - a) (by omega) a mid lim1 true true d4 (H ++ l1) (Nat.le_refl _) hbd.2.1 (by omega) z4 hlim1 hr1
    have ib := ih (b - (mid + 1)) (by omega) (mid + 1) b lim1 true true d4 (H ++ l1) (Nat.le_refl _) (by omega) hb z4 hlim1 hr1
    obtain ⟨l2, s9⟩ := st9 (H := H ++ l1) (r := r) (g := g) (n := n) (a := a) (b := b) (Yz := lim1) (len := len) (wb := wb) (wp := wp) hr1 hn' hab' hb hlen d3 z3 (p := p) hp1.2 [(97, .bool false)] ho.symm hbd.2.1 hbd.2.2 (fun _ => pd_of hr1 ia.1) (fun _ => pd_of hr1 ib.1)
    have hr2 : r < (H ++ l1 ++ l2).length := by simp; omega
    by_cases hc2 : mid - a < b - mid
    · rw [if_pos hc2, if_pos hc2, if_pos hc2, if_pos hc2] at s9
      rw [if_pos hc2]
      obtain ⟨⟨l3, e', hl⟩, hz⟩ := ih (b - (mid + 1)) (by omega) (mid + 1) b lim1 (decide (mid - a ≥ (b - a) / 8)) al (Go.Sort.pdq lt d4 a mid lim1 true true) (H ++ l1 ++ l2) (Nat.le_refl _) (by omega) hb ia.2 hlim1 hr2
      refine ⟨⟨l1 ++ (l2 ++ l3), e', ?_⟩, hz⟩
      have hb' : C X lp122_0 ((0, rw_ r g n) :: (1, .int .i64 a) :: (2, .int .i64 b) :: (3, .int .i64 Yz) :: (4, .func 98 [] []) :: (10, .bool wb) :: (11, .bool wp) :: []) (hp H r g d) = some (.norm, (0, rw_ r g n) :: (1, .int .i64 (mid + 1 : Nat)) :: (2, .int .i64 b) :: (3, .int .i64 lim1) :: (4, .func 98 [] []) :: (10, .bool (decide (mid - a ≥ (b - a) / 8))) :: (11, .bool al) :: [], hp (H ++ l1 ++ l2) r g (Go.Sort.pdq lt d4 a mid lim1 true true)) := by
        rw [lp122_eq, ZS, s1, s2, s3, s4, s5, s6, s7, s8, s9, Zg]
      rw [Yj, hb', Yu, hl, List.append_assoc, List.append_assoc]
    · rw [if_neg hc2, if_neg hc2, if_neg hc2, if_neg hc2] at s9
      rw [if_neg hc2]
      obtain ⟨⟨l3, e', hl⟩, hz⟩ := ih (mid - a) (by omega) a mid lim1 (decide (b - mid ≥ (b - a) / 8)) al (Go.Sort.pdq lt d4 (mid + 1) b lim1 true true) (H ++ l1 ++ l2) (Nat.le_refl _) hbd.2.1 (by omega) ib.2 hlim1 hr2
      refine ⟨⟨l1 ++ (l2 ++ l3), e', ?_⟩, hz⟩
      have hb' : C X lp122_0 ((0, rw_ r g n) :: (1, .int .i64 a) :: (2, .int .i64 b) :: (3, .int .i64 Yz) :: (4, .func 98 [] []) :: (10, .bool wb) :: (11, .bool wp) :: []) (hp H r g d) = some (.norm, (0, rw_ r g n) :: (1, .int .i64 a) :: (2, .int .i64 mid) :: (3, .int .i64 lim1) :: (4, .func 98 [] []) :: (10, .bool (decide (b - mid ≥ (b - a) / 8))) :: (11, .bool al) :: [], hp (H ++ l1 ++ l2) r g (Go.Sort.pdq lt d4 (mid + 1) b lim1 true true)) := by
        rw [lp122_eq, ZS, s1, s2, s3, s4, s5, s6, s7, s8, s9, Zg]
      rw [Yj, hb', Yu, hl, List.append_assoc, List.append_assoc]
end Go.Proofs.YtebjndbigoddnaaDoor
