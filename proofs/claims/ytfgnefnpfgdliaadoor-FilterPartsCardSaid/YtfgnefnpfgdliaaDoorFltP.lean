/- Plain facts: what the words of sets hold; the program's filter and the document's are one. -/
import Derived.Test.YtfgnefnpfgdliaaDoorFltH
namespace Go.Proofs.YtfgnefnpfgdliaaDoor
set_option linter.unusedVariables false
set_option linter.unusedSimpArgs false
theorem at_eq {ws : List Nat} {k : Nat} (h : k < ws.length) : at_ ws k = ws[k] := by simp [at_, List.getD, List.getElem?_eq_getElem h]
theorem at_out {ws : List Nat} {k : Nat} (h : ws.length ≤ k) : at_ ws k = 0 := by simp [at_, List.getD, List.getElem?_eq_none h]
theorem at_map {n : Nat} {f : Nat → Nat} {k : Nat} (h : k < n) : at_ ((List.range n).map f) k = f k := by
  simp [at_, List.getD, h]
theorem bit_out {ws : List Nat} {i : Nat} (h : 64 * ws.length ≤ i) : bit ws i = false := by
  rw [bit, at_out (by omega)]; simp
theorem bit_upto (n i : Nat) : bit (uptoW n) i = decide (i < n) := by
  by_cases c : i / 64 < (n + 63) / 64
  · rw [bit, uptoW, at_map c]
    split
    · rename_i h
      rw [show (18446744073709551615 : Nat) = 2 ^ 64 - 1 from rfl, Nat.testBit_two_pow_sub_one]
      simp; omega
    · rename_i h
      rw [Nat.testBit_two_pow_sub_one]
      apply decide_eq_decide.2
      omega
  · rw [bit_out (by rw [uptoW_len]; omega)]
    symm; simp; omega
theorem bit_and (a b : List Nat) (i : Nat) : bit (andW a b) i = (bit a i && bit b i) := by
  by_cases c : i / 64 < min a.length b.length
  · rw [bit, andW, at_map c, Nat.testBit_and]; rfl
  · rw [bit_out (by simp [andW]; omega)]
    by_cases c2 : a.length ≤ i / 64
    · rw [bit_out (ws := a) (by omega)]; rfl
    · rw [bit_out (ws := b) (by omega)]; simp
theorem bit_or (a b : List Nat) (i : Nat) : bit (orW a b) i = (bit a i || bit b i) := by
  by_cases c : i / 64 < max a.length b.length
  · rw [bit, orW, at_map c, Nat.testBit_or]; rfl
  · rw [bit_out (by simp [orW]; omega), bit_out (ws := a) (by omega), bit_out (ws := b) (by omega)]; rfl
theorem testBit_not64 (b j : Nat) (hb : b < 18446744073709551616) (hj : j < 64) : (18446744073709551615 - b).testBit j = !b.testBit j := by
  rw [show 18446744073709551615 - b = 2 ^ 64 - (b + 1) by omega, Nat.testBit_two_pow_sub_succ hb]
  simp [hj]
theorem bit_not {ws : List Nat} (bw : WB ws) (n i : Nat) : bit (notW ws n) i = (decide (i < n) && !bit ws i) := by
  by_cases c : i / 64 < (n + 63) / 64
  · rw [bit, notW, at_map c, nw, Nat.testBit_and, testBit_not64 _ _ (bw.at _) (Nat.mod_lt _ (by decide))]
    have := bit_upto n i
    rw [bit] at this
    rw [this]; rfl
  · rw [bit_out (by simp [notW]; omega)]
    have : decide (i < n) = false := by simp; omega
    rw [this]; rfl
theorem at_pad (ws : List Nat) (n k : Nat) : at_ (padW ws n) k = at_ ws k := by
  simp only [at_, padW, List.getD]
  by_cases c : k < ws.length
  · rw [List.getElem?_append_left c]
  · rw [List.getElem?_append_right (by omega), List.getElem?_eq_none (l := ws) (by omega), List.getElem?_replicate]
    split <;> rfl
theorem bit_put (ws : List Nat) (x i : Nat) : bit (putW ws x) i = (bit ws i || decide (i = x)) := by
  have hl : x / 64 < (padW ws (x / 64 + 1)).length := by rw [padW_len]; omega
  simp only [bit, putW]
  by_cases c : i / 64 = x / 64
  · rw [c]
    have : at_ ((padW ws (x / 64 + 1)).set (x / 64) (at_ (padW ws (x / 64 + 1)) (x / 64) ||| 2 ^ (x % 64))) (x / 64) = at_ (padW ws (x / 64 + 1)) (x / 64) ||| 2 ^ (x % 64) := by
      simp only [at_, List.getD]
      rw [List.getElem?_set_self hl]; rfl
    rw [this, Nat.testBit_or, at_pad, Nat.testBit_two_pow]
    congr 1
    apply decide_eq_decide.2
    omega
  · have : at_ ((padW ws (x / 64 + 1)).set (x / 64) (at_ (padW ws (x / 64 + 1)) (x / 64) ||| 2 ^ (x % 64))) (i / 64) = at_ (padW ws (x / 64 + 1)) (i / 64) := by
      simp only [at_, List.getD]
      rw [List.getElem?_set_ne (by omega)]
    rw [this, at_pad]
    have : decide (i = x) = false := by simp; intro h; exact c (by rw [h])
    rw [this, Bool.or_false]
theorem bit_foldl : ∀ (l ws : List Nat) (i : Nat), bit (l.foldl putW ws) i = (bit ws i || decide (i ∈ l))
  | [], ws, i => by simp
  | x :: l, ws, i => by
    rw [List.foldl_cons, bit_foldl l, bit_put, Bool.or_assoc]
    congr 1
    simp
theorem bit_of (l : List Nat) (i : Nat) : bit (ofW l) i = decide (i ∈ l) := by
  rw [ofW, bit_foldl, bit_out (by simp)]; rfl
/-- Does a node hold, by those ahead and by what it says of its column? -/
def stepB (lf : Bool) (bs : List Bool) (x : N) : Bool :=
  if x.ask = 0 then true
  else if 1 ≤ x.ask ∧ x.ask ≤ 7 then lf
  else if x.ask = 10 ∧ okA x.a bs.length = true then !bs.getD x.a.toNat false
  else if x.ask = 8 ∧ okA x.a bs.length = true ∧ okA x.b bs.length = true then bs.getD x.a.toNat false && bs.getD x.b.toNat false
  else if x.ask = 9 ∧ okA x.a bs.length = true ∧ okA x.b bs.length = true then bs.getD x.a.toNat false || bs.getD x.b.toNat false
  else false
theorem getD_map_bit (dn : List (List Nat)) (k i : Nat) : (dn.map fun w => bit w i).getD k false = bit (dn.getD k []) i := by
  by_cases c : k < dn.length
  · simp [List.getD, List.getElem?_eq_getElem c]
  · simp only [List.getD, List.getElem?_eq_none (show dn.length ≤ k by omega), List.getElem?_eq_none (show (dn.map fun w => bit w i).length ≤ k by simp; omega), Option.getD_none]
    rw [bit_out (by simp)]
theorem getD_WB {dn : List (List Nat)} (h : ∀ w ∈ dn, WB w) (k : Nat) : WB (dn.getD k []) := by
  by_cases c : k < dn.length
  · simp only [List.getD, List.getElem?_eq_getElem c, Option.getD_some]; exact h _ (List.getElem_mem _)
  · simp only [List.getD, List.getElem?_eq_none (show dn.length ≤ k by omega), Option.getD_none]; intro x hx; cases hx
theorem stepW_bit {n : Nat} {leaf : N → List Nat} {dn : List (List Nat)} (x : N) {i : Nat} (hi : i < n) (hw : ∀ w ∈ dn, WB w) : bit (stepW n leaf dn x) i = stepB (bit (leaf x) i) (dn.map fun w => bit w i) x := by
  simp only [stepW, stepB, List.length_map, getD_map_bit]
  split
  · rw [bit_upto]; simpa using hi
  split
  · rfl
  split
  · rw [bit_not (getD_WB hw _)]; simp [hi]
  split
  · rw [bit_and]
  split
  · rw [bit_or]
  · rw [bit_out (by simp)]
theorem stepW_WB {n : Nat} {leaf : N → List Nat} {dn : List (List Nat)} (x : N) (hl : WB (leaf x)) (hw : ∀ w ∈ dn, WB w) : WB (stepW n leaf dn x) := by
  simp only [stepW]
  split
  · exact uptoW_WB n
  split
  · exact hl
  split
  · exact notW_WB _ _
  split
  · exact andW_WB (getD_WB hw _)
  split
  · exact orW_WB (getD_WB hw _) (getD_WB hw _)
  · intro x hx; cases hx
theorem stepW_out {n : Nat} {leaf : N → List Nat} {dn : List (List Nat)} (x : N) {i : Nat} (hi : n ≤ i) (hw : ∀ w ∈ dn, WB w ∧ bit w i = false) (hl : bit (leaf x) i = false) : bit (stepW n leaf dn x) i = false := by
  have hg : ∀ k, bit (dn.getD k []) i = false := by
    intro k
    by_cases c : k < dn.length
    · simp only [List.getD, List.getElem?_eq_getElem c, Option.getD_some]; exact (hw _ (List.getElem_mem _)).2
    · simp only [List.getD, List.getElem?_eq_none (show dn.length ≤ k by omega), Option.getD_none]; exact bit_out (by simp)
  simp only [stepW]
  split
  · rw [bit_upto]; simp; omega
  split
  · exact hl
  split
  · rw [bit_not (getD_WB (fun w hw' => (hw w hw').1) _)]; simp; omega
  split
  · rw [bit_and, hg]; rfl
  split
  · rw [bit_or, hg, hg]; rfl
  · exact bit_out (by simp)
/-- The truths of all nodes, at a row. -/
def dnB (lf : N → Bool) (xs : List N) : List Bool := xs.foldl (fun bs x => bs ++ [stepB (lf x) bs x]) []
theorem dnB_snoc (lf : N → Bool) (xs : List N) (x : N) : dnB lf (xs ++ [x]) = dnB lf xs ++ [stepB (lf x) (dnB lf xs) x] := by
  simp [dnB, List.foldl_append]
theorem dnB_len (lf : N → Bool) (xs : List N) : (dnB lf xs).length = xs.length := by
  have : ∀ (l : List N) (dn : List Bool), (l.foldl (fun bs x => bs ++ [stepB (lf x) bs x]) dn).length = dn.length + l.length := by
    intro l
    induction l with
    | nil => intro dn; simp
    | cons a l ih => intro dn; simp [ih]; omega
  simpa [dnB] using this xs []
theorem snoc_ind {α : Type} {P : List α → Prop} (h0 : P []) (h1 : ∀ l x, P l → P (l ++ [x])) (l : List α) : P l := by
  have : ∀ (n : Nat) (l : List α), l.length = n → P l := by
    intro n
    induction n with
    | zero => intro l hl; rw [List.length_eq_zero_iff.1 hl]; exact h0
    | succ n ih =>
      intro l hl
      have hne : l ≠ [] := by intro h; rw [h] at hl; simp at hl
      rw [← List.dropLast_concat_getLast hne]
      exact h1 _ _ (ih _ (by rw [List.length_dropLast]; omega))
  exact this _ l rfl
theorem dnW_WB {n : Nat} {leaf : N → List Nat} (hl : ∀ x, WB (leaf x)) (xs : List N) : ∀ w ∈ dnW n leaf xs, WB w := by
  induction xs using snoc_ind with
  | h0 => intro w hw; simp [dnW] at hw
  | h1 l x ih =>
    rw [dnW_snoc]
    intro w hw
    rcases List.mem_append.1 hw with hw | hw
    · exact ih w hw
    · rw [List.mem_singleton.1 hw]; exact stepW_WB x (hl x) ih
theorem dnW_bit {n : Nat} {leaf : N → List Nat} (hl : ∀ x, WB (leaf x)) {i : Nat} (hi : i < n) (xs : List N) : (dnW n leaf xs).map (fun w => bit w i) = dnB (fun x => bit (leaf x) i) xs := by
  induction xs using snoc_ind with
  | h0 => rfl
  | h1 l x ih => rw [dnW_snoc, dnB_snoc, List.map_append, ih, List.map_singleton, stepW_bit x hi (dnW_WB hl l), ih]
theorem dnW_out {n : Nat} {leaf : N → List Nat} (hl : ∀ x, WB (leaf x)) {i : Nat} (hi : n ≤ i) (ho : ∀ x, bit (leaf x) i = false) (xs : List N) : ∀ w ∈ dnW n leaf xs, bit w i = false := by
  induction xs using snoc_ind with
  | h0 => intro w hw; simp [dnW] at hw
  | h1 l x ih =>
    rw [dnW_snoc]
    intro w hw
    rcases List.mem_append.1 hw with hw | hw
    · exact ih w hw
    · rw [List.mem_singleton.1 hw]; exact stepW_out x hi (fun w hw => ⟨dnW_WB hl l w hw, ih w hw⟩) (ho x)
/-- Does a filter hold at a row, by what its nodes of columns say? -/
def holdsL (lf : N → Bool) (xs : List N) : Bool := if xs.length = 0 then true else (dnB lf xs).getD (xs.length - 1) false
theorem setsW_bit {n : Nat} {leaf : N → List Nat} (hl : ∀ x, WB (leaf x)) {i : Nat} (hi : i < n) (xs : List N) : bit (setsW n leaf xs) i = holdsL (fun x => bit (leaf x) i) xs := by
  simp only [setsW, holdsL]
  split
  · rw [bit_upto]; simpa using hi
  · rw [← dnW_bit hl hi, getD_map_bit]
theorem setsW_out {n : Nat} {leaf : N → List Nat} (hl : ∀ x, WB (leaf x)) {i : Nat} (hi : n ≤ i) (ho : ∀ x, bit (leaf x) i = false) (xs : List N) : bit (setsW n leaf xs) i = false := by
  simp only [setsW]
  split
  · rw [bit_upto]; simp; omega
  · by_cases c : xs.length - 1 < (dnW n leaf xs).length
    · simp only [List.getD, List.getElem?_eq_getElem c, Option.getD_some]; exact dnW_out hl hi ho xs _ (List.getElem_mem _)
    · simp only [List.getD, List.getElem?_eq_none (show (dnW n leaf xs).length ≤ xs.length - 1 by omega), Option.getD_none]; exact bit_out (by simp)
theorem leafI_bit (x : N) (rs : List (List V)) (i : Nat) : bit (ofW (leafI x rs rs.length)) i = (decide (i < rs.length) && leafP x (rs.getD i [])) := by
  rw [bit_of]
  simp only [leafI, List.mem_filter, List.mem_range]
  by_cases h1 : i < rs.length <;> simp [h1]
theorem rowsW_bit (xs : List N) (rs : List (List V)) {i : Nat} {vs : List V} (h : rs[i]? = some vs) : bit (rowsW xs rs) i = holdsL (fun x => leafP x vs) xs := by
  have hi : i < rs.length := (List.getElem?_eq_some_iff.1 h).1
  rw [rowsW, setsW_bit (fun x => ofW_WB _) hi]
  congr 1
  funext x
  rw [leafI_bit]
  rw [List.getElem?_eq_getElem hi] at h
  injection h with h
  simp [hi, List.getD, h]
theorem rowsW_out (xs : List N) (rs : List (List V)) {i : Nat} (h : rs.length ≤ i) : bit (rowsW xs rs) i = false := by
  rw [rowsW]
  refine setsW_out (fun x => ofW_WB _) h (fun x => ?_) xs
  rw [leafI_bit]
  have : decide (i < rs.length) = false := by simp; omega
  rw [this]; rfl
/-- The numbers of a set. -/
theorem bitsOf_bit (ws : List Nat) (i : Nat) (hi : i ≤ ws.length) : bitsOf (ws.take i) 0 = (List.range (64 * i)).filter (bit ws) := by
  induction i with
  | zero => simp [bitsOf]
  | succ i ih =>
    rw [bitsOf_take ws 0 i (by omega), ih (by omega), Nat.mul_succ, List.range_add, List.filter_append]
    congr 1
    simp only [wbits, List.filter_map, Nat.zero_add]
    have e1 : (List.range 64).filter (bit ws ∘ fun x => 64 * i + x) = (List.range 64).filter fun j => (at0 ws i).testBit j := by
      apply List.filter_congr
      intro j hj
      have hj' := List.mem_range.1 hj
      simp only [Function.comp, bit]
      rw [show (64 * i + j) / 64 = i by omega, show (64 * i + j) % 64 = j by omega]
      rfl
    rw [e1, Nat.mul_comm]
theorem bitsOf_sup {ws : List Nat} {n : Nat} (h : ∀ i, n ≤ i → bit ws i = false) : bitsOf ws 0 = (List.range n).filter (bit ws) := by
  have h1 := bitsOf_bit ws ws.length (Nat.le_refl _)
  rw [List.take_length] at h1
  rw [h1]
  have key : ∀ a b, (∀ i, a ≤ i → bit ws i = false) → (List.range (a + b)).filter (bit ws) = (List.range a).filter (bit ws) := by
    intro a b ha
    rw [List.range_add, List.filter_append]
    have : ((List.range b).map (a + ·)).filter (bit ws) = [] := by
      rw [List.filter_eq_nil_iff]
      intro y hy
      obtain ⟨z, _, rfl⟩ := List.mem_map.1 hy
      rw [ha _ (by omega)]; simp
    rw [this, List.append_nil]
  rcases Nat.le_total n (64 * ws.length) with c | c
  · obtain ⟨b, hb⟩ := Nat.le.dest c
    rw [← hb]; exact key n b h
  · obtain ⟨b, hb⟩ := Nat.le.dest c
    rw [← hb]; exact (key _ b (fun i hi => bit_out hi)).symm
theorem leafP_cell (x : N) (vs : List V) : leafP x vs = match cellV x vs with | some v => oneP x v | none => false := by
  unfold leafP cellV
  by_cases c : 0 ≤ x.col
  · simp only [c, decide_true, Bool.true_and, if_true]
    cases vs[x.col.toNat]? <;> rfl
  · simp [c]
theorem cmpP_none {ask n : Int} (h1 : ask ≠ 1) (h2 : ask ≠ 2) (h3 : ask ≠ 3) (h4 : ask ≠ 4) (h5 : ask ≠ 5) (h6 : ask ≠ 6) : cmpP ask n = false := by
  simp [cmpP, h1, h2, h3, h4, h5, h6]
theorem step_ref (vs : List V) (bs : List Bool) (x : N) : stepB (leafP x vs) bs x = refStep vs bs x := by
  rw [leafP_cell]
  unfold stepB refStep
  by_cases h0 : x.ask = 0
  · simp [h0]
  by_cases h7 : x.ask = 7
  · simp only [h7]
    cases cellV x vs <;> simp [oneP, h7]
  by_cases h8 : x.ask = 8
  · simp only [h8]
    cases okA x.a bs.length <;> cases okA x.b bs.length <;> simp
  by_cases h9 : x.ask = 9
  · simp only [h9]
    cases okA x.a bs.length <;> cases okA x.b bs.length <;> simp
  by_cases h10 : x.ask = 10
  · simp only [h10]
    cases okA x.a bs.length <;> simp
  simp only [h0, h7, h8, h9, h10, false_and, if_false, reduceIte]
  by_cases h : 1 ≤ x.ask ∧ x.ask ≤ 7
  · rw [if_pos h]
    cases cellV x vs with
    | none => rfl
    | some v =>
      simp only [oneP, cmpD, h7, false_or, false_and, decide_false]
  · rw [if_neg h]
    cases cellV x vs with
    | none => rfl
    | some v =>
      simp only [cmpD]
      split
      · rfl
      · rw [cmpP_none] <;> omega
theorem dnB_ref (vs : List V) (xs : List N) : dnB (fun x => leafP x vs) xs = refB vs xs := by
  induction xs using snoc_ind with
  | h0 => rfl
  | h1 l x ih => rw [dnB_snoc, refB_snoc, ih, step_ref]
theorem holds_ref (vs : List V) (xs : List N) : holdsL (fun x => leafP x vs) xs = holdsR xs vs := by
  simp only [holdsL, holdsR, dnB_ref]
theorem rowsW_holds (xs : List N) (rs : List (List V)) {i : Nat} {vs : List V} (h : rs[i]? = some vs) : bit (rowsW xs rs) i = holdsR xs vs := by
  rw [rowsW_bit xs rs h, holds_ref]
theorem rowsW_list (xs : List N) (rs : List (List V)) : bitsOf (rowsW xs rs) 0 = rowsI xs rs rs.length := by
  rw [bitsOf_sup (n := rs.length) (fun i hi => rowsW_out xs rs hi), rowsI]
  apply List.filter_congr
  intro i hi
  have hi' := List.mem_range.1 hi
  rw [rowsW_holds xs rs (List.getElem?_eq_getElem hi')]
  simp [List.getD, List.getElem?_eq_getElem hi']
end Go.Proofs.YtfgnefnpfgdliaaDoor
