/- What the arguments are; what the condition on the table gives. -/
import Derived.Test.YtfgnefnpfgdliaaDoorRows
import Derived.Test.YtfgnefnpfgdliaaDoorLaid
import Derived.Test.YtfgnefnpfgdliaaDoorFltA
import Derived.Test.YtfgnefnpfgdliaaDoorFltB
import Derived.LaidMore
namespace Go.Proofs.YtfgnefnpfgdliaaDoor
open Go.RowKit
set_option linter.unusedVariables false
def tyV : Ty := .st [.int .i64, .int .i64, .str, .bool]
def tyL : Ty := .sl 4 40 tyV
def tyR : Ty := .sl 1 24 tyL
def tyN : Ty := .st [.int .i64, .int .i64, .int .i64, .int .i64, .str, .bool, .int .i64, .int .i64]
def tyF : Ty := .sl 8 72 tyN
theorem argV {d : DV} (h0 : HasTy tyV d) : ∃ v : V, d = v.d ∧ Sm v := by
  unfold tyV HasTy at h0
  obtain ⟨cs, rfl, h0⟩ := h0
  unfold HasTys at h0
  obtain ⟨a, l, rfl, ha, h0⟩ := h0
  unfold HasTys at h0
  obtain ⟨b, l, rfl, hb, h0⟩ := h0
  unfold HasTys at h0
  obtain ⟨c, l, rfl, hc, h0⟩ := h0
  unfold HasTys at h0
  obtain ⟨d, l, rfl, hd, h0⟩ := h0
  unfold HasTys at h0
  subst h0
  unfold HasTy at ha hb hc hd
  obtain ⟨k, rfl, _⟩ := ha
  obtain ⟨n, rfl, _⟩ := hb
  obtain ⟨s, rfl, hs⟩ := hc
  obtain ⟨t, rfl⟩ := hd
  refine ⟨⟨k, n, s, t⟩, rfl, ?_⟩
  show s.size ≤ _
  exact Nat.le_trans hs (by decide)
theorem argN {d : DV} (h0 : HasTy tyN d) : ∃ x : N, d = x.d ∧ Sm x.val := by
  unfold tyN HasTy at h0
  obtain ⟨cs, rfl, h0⟩ := h0
  unfold HasTys at h0
  obtain ⟨a, l, rfl, ha, h0⟩ := h0
  unfold HasTys at h0
  obtain ⟨b, l, rfl, hb, h0⟩ := h0
  unfold HasTys at h0
  obtain ⟨c, l, rfl, hc, h0⟩ := h0
  unfold HasTys at h0
  obtain ⟨d, l, rfl, hd, h0⟩ := h0
  unfold HasTys at h0
  obtain ⟨e, l, rfl, he, h0⟩ := h0
  unfold HasTys at h0
  obtain ⟨f, l, rfl, hf, h0⟩ := h0
  unfold HasTys at h0
  obtain ⟨g, l, rfl, hg, h0⟩ := h0
  unfold HasTys at h0
  obtain ⟨i, l, rfl, hi, h0⟩ := h0
  unfold HasTys at h0
  subst h0
  unfold HasTy at ha hb hc hd he hf hg hi
  obtain ⟨a, rfl, _⟩ := ha
  obtain ⟨b, rfl, _⟩ := hb
  obtain ⟨c, rfl, _⟩ := hc
  obtain ⟨d, rfl, _⟩ := hd
  obtain ⟨e, rfl, hs⟩ := he
  obtain ⟨f, rfl⟩ := hf
  obtain ⟨g, rfl, _⟩ := hg
  obtain ⟨i, rfl, _⟩ := hi
  refine ⟨⟨a, b, ⟨c, d, e, f⟩, g, i⟩, rfl, ?_⟩
  show e.size ≤ _
  exact Nat.le_trans hs (by decide)
theorem argI {d : DV} (h : HasTy (.int .i64) d) : ∃ n, d = .int .i64 n ∧ -9223372036854775808 ≤ n ∧ n ≤ 9223372036854775807 := by
  unfold HasTy at h
  obtain ⟨n, rfl, w⟩ := h
  refine ⟨n, rfl, ?_⟩
  simp [Lit.wf, IntKind.min, IntKind.max, IntKind.signed, IntKind.bits] at w
  omega
theorem argL {d : DV} (h : HasTy tyL d) : ∃ xs : List V, (d = .list 4 (xs.map V.d) false ∨ (d = .nils ∧ xs = [])) ∧ (∀ x ∈ xs, Sm x) ∧ xs.length ≤ reachBytes := by
  unfold tyL HasTy at h
  rcases h with rfl | ⟨xs, rfl, hb, _, hx⟩
  · exact ⟨[], .inr ⟨rfl, rfl⟩, by simp, by simp⟩
  · have : ∀ (l : List DV), (∀ x ∈ l, HasTy tyV x) → ∃ ys : List V, l = ys.map V.d ∧ ∀ x ∈ ys, Sm x := by
      intro l
      induction l with
      | nil => intro _; exact ⟨[], rfl, by simp⟩
      | cons a l ih =>
        intro h
        obtain ⟨v, rfl, hv⟩ := argV (h a (by simp))
        obtain ⟨ys, rfl, hys⟩ := ih (fun x hx => h x (by simp [hx]))
        refine ⟨v :: ys, rfl, ?_⟩
        intro x hx
        rcases List.mem_cons.1 hx with rfl | hx
        · exact hv
        · exact hys x hx
    obtain ⟨ys, rfl, hys⟩ := this xs (fun x h => (hx x h).1)
    refine ⟨ys, .inl rfl, hys, ?_⟩
    simp at hb
    omega
theorem argF {d : DV} (h : HasTy tyF d) : ∃ xs : List N, (∀ h, vw h 8 d = some (xs.map N.d)) ∧ (d = .list 8 (xs.map N.d) false ∨ (d = .nils ∧ xs = [])) ∧ (∀ x ∈ xs, Sm x.val) ∧ xs.length ≤ reachBytes := by
  unfold tyF HasTy at h
  rcases h with rfl | ⟨xs, rfl, hb, _, hx⟩
  · exact ⟨[], fun _ => rfl, .inr ⟨rfl, rfl⟩, by simp, by simp⟩
  · have : ∀ (l : List DV), (∀ x ∈ l, HasTy tyN x) → ∃ ys : List N, l = ys.map N.d ∧ ∀ x ∈ ys, Sm x.val := by
      intro l
      induction l with
      | nil => intro _; exact ⟨[], rfl, by simp⟩
      | cons a l ih =>
        intro h
        obtain ⟨v, rfl, hv⟩ := argN (h a (by simp))
        obtain ⟨ys, rfl, hys⟩ := ih (fun x hx => h x (by simp [hx]))
        refine ⟨v :: ys, rfl, ?_⟩
        intro x hx
        rcases List.mem_cons.1 hx with rfl | hx
        · exact hv
        · exact hys x hx
    obtain ⟨ys, rfl, hys⟩ := this xs (fun x h => (hx x h).1)
    refine ⟨ys, fun _ => rfl, .inl rfl, hys, ?_⟩
    simp at hb
    omega
theorem argR {d : DV} (h : HasTy tyR d) : ∃ (ds : List DV) (rs : List (List V)), (∀ h, vw h 1 d = some ds) ∧ (d = .list 1 ds false ∨ (d = .nils ∧ ds = [])) ∧ RowsL ds rs ∧ (∀ vs ∈ rs, ∀ v ∈ vs, Sm v) ∧ rs.length ≤ reachBytes := by
  unfold tyR HasTy at h
  rcases h with rfl | ⟨xs, rfl, hb, _, hx⟩
  · exact ⟨[], [], fun _ => rfl, .inr ⟨rfl, rfl⟩, ⟨rfl, fun i d vs h1 => by simp at h1⟩, by simp, by simp⟩
  · have : ∀ (l : List DV), (∀ x ∈ l, HasTy tyL x) → ∃ rs : List (List V), RowsL l rs ∧ ∀ vs ∈ rs, ∀ v ∈ vs, Sm v := by
      intro l
      induction l with
      | nil => intro _; exact ⟨[], ⟨rfl, fun i d vs h1 => by simp at h1⟩, by simp⟩
      | cons a l ih =>
        intro h
        obtain ⟨vs, hv, hs, _⟩ := argL (h a (by simp))
        obtain ⟨rs, hr, hys⟩ := ih (fun x hx => h x (by simp [hx]))
        refine ⟨vs :: rs, ⟨by simp [hr.1], fun i d us h1 h2 => ?_⟩, ?_⟩
        · cases i with
          | zero =>
            simp at h1 h2
            subst h1; subst h2
            rcases hv with hv | hv
            · exact .inl ⟨false, hv⟩
            · exact .inr hv
          | succ i => exact hr.2 i d us (by simpa using h1) (by simpa using h2)
        · intro x hx
          rcases List.mem_cons.1 hx with rfl | hx
          · exact hs
          · exact hys x hx
    obtain ⟨rs, hr, hys⟩ := this xs (fun x h => (hx x h).1)
    refine ⟨xs, rs, fun _ => rfl, .inl rfl, hr, hys, ?_⟩
    rw [← hr.1]
    omega
theorem gDb : Tryd.prog.globalNamed "math/bits.deBruijn64tab" = some 0 := by kernel_rfl
/-- The condition gives the engine's table. -/
theorem tabs_db {W : World} (h : laidMetH Tryd.prog [("math/bits.deBruijn64tab", Rows.laid_math_bits_deBruijn64tab)] W) : Tabs B0 W [] := by
  rw [MakeChecks.laidMetH_plain _ _ _ (by kernel_rfl)] at h
  intro p hp
  simp only [tabs, List.mem_singleton] at hp
  subst hp
  exact tab_of_laid (l := deBruijn) (t := 107) (e := 5) h gDb (by kernel_rfl) (by kernel_rfl) (by kernel_rfl) (by kernel_rfl) rfl
end Go.Proofs.YtfgnefnpfgdliaaDoor
