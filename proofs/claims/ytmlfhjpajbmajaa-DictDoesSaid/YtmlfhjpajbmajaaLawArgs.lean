/- What the arguments are. -/
import Derived.Test.YtmlfhjpajbmajaaFrameB
import Derived.Test.YtmlfhjpajbmajaaPlainM
namespace Go.Proofs.Ytmlfhjpajbmajaa
set_option linter.unusedVariables false
def tyV : Ty := .st [.int .i64, .int .i64, .str, .bool]
def tyL : Ty := .sl 4 40 tyV
theorem argV {d : DV} (h0 : HasTy tyV d) : ∃ v : V, d = v.d ∧ Sm v := by
  unfold tyV HasTy at h0
  obtain ⟨cs, rfl, h0⟩ := h0
  unfold HasTys at h0
  obtain ⟨a, l, rfl, ha, h0⟩ := h0
  unfold HasTys at h0
  obtain ⟨b, l, rfl, hb, h0⟩ := h0
  unfold HasTys at h0
  obtain ⟨c, l, rfl, hc, h0⟩ := h0
  unfold HasTys at h0
  obtain ⟨d, l, rfl, hd, h0⟩ := h0
  unfold HasTys at h0
  subst h0
  unfold HasTy at ha hb hc hd
  obtain ⟨k, rfl, _⟩ := ha
  obtain ⟨n, rfl, _⟩ := hb
  obtain ⟨s, rfl, hs⟩ := hc
  obtain ⟨t, rfl⟩ := hd
  refine ⟨⟨k, n, s, t⟩, rfl, ?_⟩
  show s.size ≤ _
  exact Nat.le_trans hs (by decide)
theorem argI {d : DV} (h : HasTy (.int .i64) d) : ∃ n, d = .int .i64 n ∧ -9223372036854775808 ≤ n ∧ n ≤ 9223372036854775807 := by
  unfold HasTy at h
  obtain ⟨n, rfl, w⟩ := h
  refine ⟨n, rfl, ?_⟩
  simp [Lit.wf, IntKind.min, IntKind.max, IntKind.signed, IntKind.bits] at w
  omega
theorem argL {d : DV} (h : HasTy tyL d) : ∃ xs : List V, (d = .list 4 (xs.map V.d) false ∨ (d = .nils ∧ xs = [])) ∧ (∀ x ∈ xs, Sm x) ∧ xs.length ≤ reachBytes := by
  unfold tyL HasTy at h
  rcases h with rfl | ⟨xs, rfl, hb, _, hx⟩
  · exact ⟨[], .inr ⟨rfl, rfl⟩, by simp, by simp⟩
  · have : ∀ (l : List DV), (∀ x ∈ l, HasTy tyV x) → ∃ ys : List V, l = ys.map V.d ∧ ∀ x ∈ ys, Sm x := by
      intro l
      induction l with
      | nil => intro _; exact ⟨[], rfl, by simp⟩
      | cons a l ih =>
        intro h
        obtain ⟨v, rfl, hv⟩ := argV (h a (by simp))
        obtain ⟨ys, rfl, hys⟩ := ih (fun x hx => h x (by simp [hx]))
        refine ⟨v :: ys, rfl, ?_⟩
        intro x hx
        rcases List.mem_cons.1 hx with rfl | hx
        · exact hv
        · exact hys x hx
    obtain ⟨ys, rfl, hys⟩ := this xs (fun x h => (hx x h).1)
    refine ⟨ys, .inl rfl, hys, ?_⟩
    simp at hb
    omega
end Go.Proofs.Ytmlfhjpajbmajaa
