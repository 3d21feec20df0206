/- A region that draws its order: whatever comes up first, the end is the text's. -/
import Derived.Test.YtfgnefnpfgdliaaDoorEngP
import Derived.Orders
namespace Go.Proofs.YtfgnefnpfgdliaaDoor
open Go.RowKit
set_option linter.unusedVariables false
set_option linter.unusedSimpArgs false

theorem lk_put (dst : Option Nat) (d : DV) (e : Env) (s : Nat) : lk (put dst d e) s = if dst = some s then d else lk e s := by
  cases dst with
  | none => simp [put]
  | some t => simp [put, lk]
theorem getD_put {a : Act} {t s : Nat} {v : Value} (ht : t < a.tmps.size) : (a.put (some t) v).tmps.getD s undef = if t = s then v else a.tmps.getD s undef := by
  simp only [Act.put, Array.getD_eq_getD_getElem?, Array.getElem?_setIfInBounds]
  by_cases h : t = s
  · subst h; simp [ht]
  · simp [h]

/-! ### The static check -/
theorem rowOk_spec {m : Nat} {B : List Nat} {j : Nat} {y : XOper} : ∀ {xs : List XOper} {i0 : Nat}, rowOk m B j y xs i0 = true → ∀ i x, xs[i]? = some x → i0 + i < j → dstOk x y = true ∧ pairOk m B (i0 + i) x j y = true
  | [], _, _, i, x, hx, _ => by simp at hx
  | x0 :: xs, i0, h, i, x, hx, hi => by
    unfold rowOk at h
    rw [if_pos (by omega)] at h
    simp only [Bool.and_eq_true] at h
    cases i with
    | zero => simp at hx; subst hx; exact h.1
    | succ i =>
      have := rowOk_spec h.2 i x (by simpa using hx) (by omega)
      rw [show i0 + 1 + i = i0 + (i + 1) by omega] at this
      exact this
theorem allOk_spec {m : Nat} {xs : List XOper} {B : List Nat} : ∀ {Es : List (List Nat)} {ys : List XOper} {j0 : Nat}, allOk m xs B Es ys j0 = true → ∀ (j : Nat) es y, Es[j]? = some es → ys[j]? = some y →
    (∀ k ∈ es, k < j0 + j) ∧ mainOk y.op = true ∧ (∀ i x, i < j0 + j → xs[i]? = some x → dstOk x y = true ∧ pairOk m B i x (j0 + j) y = true) ∧ (j0 + j < m → isAl y = true)
  | [], _, _, _, j, es, y, he, _ => by simp at he
  | _ :: _, [], _, _, j, es, y, _, hy => by simp at hy
  | es0 :: Es, y0 :: ys, j0, h, j, es, y, he, hy => by
    unfold allOk at h
    simp only [Bool.and_eq_true, List.all_eq_true, decide_eq_true_eq] at h
    cases j with
    | zero =>
      simp at he hy; subst he; subst hy
      refine ⟨h.1.1.1.1, h.1.1.1.2, fun i x hi hx => ?_, fun hm => ?_⟩
      · have := rowOk_spec h.1.2 i x hx (by omega)
        simpa using this
      · have := h.1.1.2
        rw [if_pos (by omega), Bool.and_eq_true] at this
        exact this.1
    | succ j =>
      have := allOk_spec h.2 j es y (by simpa using he) (by simpa using hy)
      rw [show j0 + 1 + j = j0 + (j + 1) by omega] at this
      exact this

def Closed (Es : List (List Nat)) (L : Nat → Prop) : Prop := ∀ (j : Nat) es, L j → Es[j]? = some es → ∀ k ∈ es, L k
theorem fold_bit {acc : List Nat} : ∀ {es : List Nat} {m i : Nat}, (es.foldl (fun m j => m ||| 2 ^ j ||| acc.getD j 0) m).testBit i = true → m.testBit i = true ∨ ∃ k ∈ es, i = k ∨ (acc.getD k 0).testBit i = true
  | [], m, i, h => .inl h
  | k :: es, m, i, h => by
    rw [List.foldl_cons] at h
    rcases fold_bit h with h1 | ⟨k', hk', h1⟩
    · simp only [Nat.testBit_or, Bool.or_eq_true, Nat.testBit_two_pow, decide_eq_true_eq] at h1
      rcases h1 with (h1 | h1) | h1
      · exact .inl h1
      · exact .inr ⟨k, by simp, .inl h1.symm⟩
      · exact .inr ⟨k, by simp, .inr h1⟩
    · exact .inr ⟨k', by simp [hk'], h1⟩
theorem befs_spec {All : List (List Nat)} : ∀ {rest pre : List (List Nat)} {acc : List Nat}, All = pre ++ rest → acc.length = pre.length →
    (∀ j, j < acc.length → ∀ i, (acc.getD j 0).testBit i = true → ∀ L, Closed All L → (∀ es, All[j]? = some es → ∀ k ∈ es, L k) → L i) →
    ∀ j i, ((befs rest acc).getD j 0).testBit i = true → ∀ L, Closed All L → (∀ es, All[j]? = some es → ∀ k ∈ es, L k) → L i
  | [], pre, acc, hA, hl, hacc, j, i, hb, L, hL, hj => by
    unfold befs at hb
    by_cases hlt : j < acc.length
    · exact hacc j hlt i hb L hL hj
    · rw [List.getD_eq_getElem?_getD, List.getElem?_eq_none (by omega)] at hb
      simp at hb
  | es0 :: rest, pre, acc, hA, hl, hacc, j, i, hb, L, hL, hj => by
    unfold befs at hb
    refine befs_spec (rest := rest) (pre := pre ++ [es0]) (acc := acc ++ [es0.foldl (fun m j => m ||| 2 ^ j ||| acc.getD j 0) 0]) (by simp [hA]) (by simp [hl]) (fun j hj i hb L hL hje => ?_) j i hb L hL hj
    by_cases hlt : j < acc.length
    · rw [List.getD_eq_getElem?_getD, List.getElem?_append_left hlt, ← List.getD_eq_getElem?_getD] at hb
      exact hacc j hlt i hb L hL hje
    · have hje' : j = acc.length := by simp at hj; omega
      subst hje'
      rw [List.getD_eq_getElem?_getD, List.getElem?_append_right (Nat.le_refl _)] at hb
      simp only [Nat.sub_self, List.getElem?_cons_zero, Option.getD_some] at hb
      have hes : All[acc.length]? = some es0 := by rw [hA, hl, List.getElem?_append_right (Nat.le_refl _)]; simp
      rcases fold_bit hb with h1 | ⟨k, hk, rfl | h1⟩
      · simp at h1
      · exact hje es0 hes i hk
      · by_cases hkl : k < acc.length
        · exact hacc k hkl i h1 L hL (fun es he => hL k es (hje es0 hes k hk) he)
        · rw [List.getD_eq_getElem?_getD, List.getElem?_eq_none (by omega)] at h1
          simp at h1

/-! ### The text's own run -/
structure TextRun (call : CallF) (xs : List XOper) (Ev : Nat → Env) (Hv : Nat → Heap) (Dv : Nat → DV) : Prop where
  op : ∀ (j : Nat) x, xs[j]? = some x → evOp call x (Ev j) (Hv j) = some (Dv j, Hv (j + 1))
  env : ∀ (j : Nat) x, xs[j]? = some x → Ev (j + 1) = put x.dst (Dv j) (Ev j)
theorem textRun_of {call : CallF} : ∀ {xs : List XOper} {e : Env} {h : Heap} {e' : Env} {h' : Heap}, evOps call xs e h = some (e', h') →
    ∃ Ev Hv Dv, TextRun call xs Ev Hv Dv ∧ Ev 0 = e ∧ Hv 0 = h ∧ Ev xs.length = e' ∧ Hv xs.length = h'
  | [], e, h, e', h', hr => by
    unfold evOps at hr
    obtain ⟨rfl, rfl⟩ := some_pair hr
    exact ⟨fun _ => e, fun _ => h, fun _ => .undef, ⟨fun j x hx => by simp at hx, fun j x hx => by simp at hx⟩, rfl, rfl, rfl, rfl⟩
  | x :: xs, e, h, e', h', hr => by
    unfold evOps at hr
    split at hr
    · rename_i d h1 hd
      obtain ⟨Ev, Hv, Dv, hT, h1', h2', h3', h4'⟩ := textRun_of hr
      refine ⟨fun j => match j with | 0 => e | j + 1 => Ev j, fun j => match j with | 0 => h | j + 1 => Hv j, fun j => match j with | 0 => d | j + 1 => Dv j, ⟨fun j y hy => ?_, fun j y hy => ?_⟩, rfl, rfl, h3', h4'⟩
      · cases j with
        | zero =>
          simp at hy; subst hy
          show evOp call x e h = some (d, Hv 0)
          rw [hd, h2']
        | succ j => exact hT.op j y (by simpa using hy)
      · cases j with
        | zero =>
          simp at hy; subst hy
          show Ev 0 = _
          rw [h1']
        | succ j => exact hT.env j y (by simpa using hy)
    · cases hr

section
variable {call : CallF} {xs : List XOper} {Ev : Nat → Env} {Hv : Nat → Heap} {Dv : Nat → DV}
theorem TextRun.lk (hT : TextRun call xs Ev Hv Dv) (s : Nat) : ∀ j, j ≤ xs.length → (∃ i x, i < j ∧ xs[i]? = some x ∧ x.dst = some s ∧ Proofs.YtfgnefnpfgdliaaDoor.lk (Ev j) s = Dv i ∧ ∀ i' x', i < i' → i' < j → xs[i']? = some x' → x'.dst ≠ some s) ∨
    ((∀ i x, i < j → xs[i]? = some x → x.dst ≠ some s) ∧ Proofs.YtfgnefnpfgdliaaDoor.lk (Ev j) s = Proofs.YtfgnefnpfgdliaaDoor.lk (Ev 0) s)
  | 0, _ => .inr ⟨fun i x hi => by omega, rfl⟩
  | j + 1, hj => by
    obtain ⟨x, hx⟩ : ∃ x, xs[j]? = some x := ⟨xs[j], by simp⟩
    rw [hT.env j x hx, lk_put]
    by_cases hd : x.dst = some s
    · rw [if_pos hd]
      exact .inl ⟨j, x, by omega, hx, hd, rfl, fun i' x' h1 h2 => by omega⟩
    · rw [if_neg hd]
      rcases TextRun.lk hT s j (by omega) with ⟨i, x', h1, h2, h3, h4, h5⟩ | ⟨h1, h2⟩
      · refine .inl ⟨i, x', by omega, h2, h3, h4, fun i' x'' q1 q2 q3 => ?_⟩
        by_cases hij : i' = j
        · subst hij; rw [hx] at q3; injection q3 with q3; subst q3; exact hd
        · exact h5 i' x'' q1 (by omega) q3
      · refine .inr ⟨fun i x' q1 q2 => ?_, h2⟩
        by_cases hij : i = j
        · subst hij; rw [hx] at q2; injection q2 with q2; subst q2; exact hd
        · exact h1 i x' (by omega) q2
theorem TextRun.quiet (hT : TextRun call xs Ev Hv Dv) {i : Nat} {x : XOper} (hx : xs[i]? = some x) (hk : x.op.kind ≠ 2) : Hv (i + 1) = Hv i := by
  have h1 := hT.op i x hx
  unfold evOp at h1
  split at h1
  · cases h1
  · exact (some_pair h1).2.symm
  · split at h1
    · rename_i d h' hd
      split at h1
      · cases h1
      · obtain ⟨rfl, rfl⟩ := some_pair h1
        unfold evTo at hd
        have hk' : x.op.kind = 0 ∨ x.op.kind = 1 := by
          have : x.op.kind ≤ 2 := kind_le _
          omega
        rcases hk' with hk' | hk'
        · rw [kind0_nocall hk'] at hd
          simp only at hd
          rw [kind0 hk' _ _ (Hv i)] at hd
          obtain ⟨y, _, _, h3⟩ := map_pair (f := fun d => d) hd
          exact h3
        · rw [kind1_nocall hk'] at hd
          exact (kind1_grow hk' hd).1
    · cases h1
theorem TextRun.grow (hT : TextRun call xs Ev Hv Dv) {i : Nat} {x : XOper} (hx : xs[i]? = some x) (hg : x.gr = true ∨ x.op.kind ≠ 2) : ∃ t, Hv (i + 1) = Hv i ++ t := by
  rcases hg with hg | hg
  · have h1 := hT.op i x hx
    unfold evOp at h1
    split at h1
    · cases h1
    · exact ⟨[], by rw [← (some_pair h1).2]; simp⟩
    · split at h1
      · rename_i d h' hd
        split at h1
        · cases h1
        · rename_i hn
          obtain ⟨rfl, rfl⟩ := some_pair h1
          have : (Hv (i + 1)).take (Hv i).length = Hv i := Classical.byContradiction fun hne => hn ⟨hg, hne⟩
          exact ⟨(Hv (i + 1)).drop (Hv i).length, by have h5 := List.take_append_drop (Hv i).length (Hv (i + 1)); rw [this] at h5; exact h5.symm⟩
      · cases h1
  · exact ⟨[], by rw [hT.quiet hx hg]; simp⟩
theorem grows {Hv : Nat → Heap} {p : Nat} : ∀ q, p ≤ q → (∀ i, p ≤ i → i < q → ∃ t, Hv (i + 1) = Hv i ++ t) → ∃ t, Hv q = Hv p ++ t
  | 0, hpq, _ => ⟨[], by have : p = 0 := by omega
                         subst this; simp⟩
  | q + 1, hpq, hg => by
    by_cases h : p = q + 1
    · subst h; exact ⟨[], by simp⟩
    · obtain ⟨t, ht⟩ := grows q (by omega) (fun i h1 h2 => hg i h1 (by omega))
      obtain ⟨t', ht'⟩ := hg q (by omega) (by omega)
      exact ⟨t ++ t', by rw [ht', ht, List.append_assoc]⟩
end
end Go.Proofs.YtfgnefnpfgdliaaDoor
