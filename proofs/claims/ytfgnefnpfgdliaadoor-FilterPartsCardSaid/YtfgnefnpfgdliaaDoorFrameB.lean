/- A law's call, from its ideal run. -/
import Derived.Test.YtfgnefnpfgdliaaDoorFrameA
import Derived.SizedLaws
namespace Go.Proofs.YtfgnefnpfgdliaaDoor
open Go.RowKit
set_option linter.unusedVariables false
set_option linter.unusedSimpArgs false

theorem rv_of_cells {w : World} {d : DV} {v : Value} (hr : RVs B0 w [] d.cells v.cells.toList) (h : (∃ cs, d = .agg cs) → ∃ us, v = .agg us) (h1 : d.one = true ∨ ∃ cs, d = .agg cs) (hv : (∃ us, v = .agg us) → ∃ cs, d = .agg cs) : RV B0 w [] d v := by
  rcases h1 with h1 | ⟨cs, rfl⟩
  · have hd : d.cells = [d] := by cases d <;> first | rfl | cases h1
    have hva : ∀ us, v ≠ .agg us := fun us hq => by
      obtain ⟨cs, rfl⟩ := hv ⟨us, hq⟩
      cases h1
    have hc : v.cells.toList = [v] := by cases v <;> first | rfl | exact absurd rfl (hva _)
    rw [hd, hc] at hr
    cases hr with
    | cons h1 _ => exact h1
  · obtain ⟨us, rfl⟩ := h ⟨cs, rfl⟩
    have := RV.agg hr
    simpa [DV.cells, Value.cells] using this

section
variable {H : Type} {enc : TypeId × Value → H} {P : Program} {w : World}
theorem hasTy_kind {ty : Ty} {d : DV} (h : HasTy ty d) : (ty.one = true → d.one = true) ∧ (ty.one = false → ∃ cs, d = .agg cs) := by
  cases ty with
  | st ts => unfold HasTy at h; obtain ⟨cs, rfl, _⟩ := h; exact ⟨fun h => (by cases h), fun _ => ⟨cs, rfl⟩⟩
  | _ => exact ⟨fun ho => (hasTy_one h ho).2, fun ho => (by cases ho)⟩
theorem tyOf_kind {n : Nat} {t : TypeId} {ty : Ty} (h : tyOf P n t = some ty) : (ty.one = false ↔ ∃ fs, P.underlying t = some (.struct fs)) ∧ (∀ m e, P.underlying t ≠ some (.array m e)) := by
  cases n with
  | zero => simp [tyOf] at h
  | succ n =>
    simp only [tyOf] at h
    split at h
    · rename_i hu; injection h with h; subst h; rw [hu]; simp [Ty.one]
    · rename_i hu; injection h with h; subst h; rw [hu]; simp [Ty.one]
    · rename_i hu; injection h with h; subst h; rw [hu]; simp [Ty.one]
    · rename_i hu
      split at h
      · split at h
        · injection h with h; subst h; rw [hu]; simp [Ty.one]
        · cases h
      · cases h
    · rename_i hu
      split at h
      · split at h
        · injection h with h; subst h; rw [hu]; simp [Ty.one]
        · cases h
      · cases h
    · cases h
theorem tyOf_one {n : Nat} {t : TypeId} {ty : Ty} (h : tyOf P n t = some ty) (ho : ty.one = true) : P.underlying t = some .bool ∨ (∃ k, P.underlying t = some (.int k)) ∨ P.underlying t = some .string ∨ ∃ e, P.underlying t = some (.slice e) := by
  cases n with
  | zero => simp [tyOf] at h
  | succ n =>
    simp only [tyOf] at h
    split at h
    · rename_i hu; exact .inl hu
    · rename_i hu; exact .inr (.inl ⟨_, hu⟩)
    · rename_i hu; exact .inr (.inr (.inl hu))
    · rename_i hu; exact .inr (.inr (.inr ⟨_, hu⟩))
    · split at h
      · split at h
        · injection h with h; subst h; cases ho
        · cases h
      · cases h
    · cases h
/-- An argument, as an ideal value. -/
theorem arg_in {base : Nat} {n : Nat} {t : TypeId} {ty : Ty} {v : Value} {D : DataW H} {ps : List MemPlace} (hty : tyOf P n t = some ty) (hval : Value.okWide P w .any base t v) (h : DataW.Trod enc P w 0 (fun _ => true) true t v D ps) (hw : ∀ m ∈ D.weights P t, m ≤ reachBytes) :
    ∃ d, HasTy ty d ∧ Nr d ∧ RV B0 w [] d v := by
  obtain ⟨fuel, hf⟩ := h
  obtain ⟨d, g1, g2, g3, g4⟩ := trod_told fuel n t ty v.cells.toList (D, ps) hty hf hw
  obtain ⟨k1, k2⟩ := tyOf_kind hty
  obtain ⟨q1, q2⟩ := hasTy_kind g1
  refine ⟨d, g1, g2, rv_of_cells g4 (fun ⟨cs, hd⟩ => ?_) ?_ (fun ⟨us, hv⟩ => ?_)⟩
  · have : ty.one = false := by
      cases ho : ty.one with
      | false => rfl
      | true => have := q1 ho; subst hd; cases this
    obtain ⟨fs, hu⟩ := k1.1 this
    unfold Value.okWide at hval
    rw [hu] at hval
    obtain ⟨cs, hcs, _⟩ := hval
    exact ⟨cs, hcs⟩
  · cases ho : ty.one with
    | false => exact .inr (q2 ho)
    | true => exact .inl (q1 ho)
  · cases ho : ty.one with
    | false => exact q2 ho
    | true =>
      exfalso
      subst hv
      have hns : ∀ fs, P.underlying t ≠ some (.struct fs) := fun fs hu => by
        have := k1.2 ⟨fs, hu⟩
        rw [ho] at this; cases this
      have h1 := hasTy_one g1 ho
      unfold Value.okWide at hval
      rcases tyOf_one hty ho with hu | ⟨k, hu⟩ | hu | ⟨e, hu⟩ <;> simp [hu, Cell.okWide, Cell.ok] at hval
theorem below_of_ext {β' : Bm} {w w' : World} {h' : Heap} (he : Ext B0 w [] β' w' h') : RowKit.Below w.heap.size w w' :=
  ⟨he.os, he.tape, he.output, he.size, fun k hk => he.keep k hk (fun o ho => by cases ho)⟩
theorem law_calls {X : Nat → Option XK} {hh : Nat → Hints} (hS : Sound P X hh) (hT : Tabs B0 w []) {f : Nat} {ds : List DV} {vs : List Value} {h' : Heap} (hE : E X f ds [] = some (.bool true, h')) (hR : RVs B0 w [] ds vs) :
    Calls P f vs.toArray w (fun e w' => e = .returned (.bool true) ∧ RowKit.Below w.heap.size w w') := by
  refine (E_ok hS f ds [] _ h' B0 w vs hE (inv0 w hT) hR).2.mono ?_
  rintro e w' ⟨v, β', rfl, q1, q2, q3⟩
  have : mat (.bool true) h' = (.bool true, h') := rfl
  rw [this] at q1 q2 q3
  cases q3
  exact ⟨rfl, below_of_ext q1⟩
end
end Go.Proofs.YtfgnefnpfgdliaaDoor
