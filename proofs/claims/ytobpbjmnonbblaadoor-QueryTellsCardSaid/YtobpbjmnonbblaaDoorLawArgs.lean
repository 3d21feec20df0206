/- What the arguments are. -/
import Derived.Test.YtobpbjmnonbblaaDoorRows
import Derived.Test.YtobpbjmnonbblaaDoorFrameA
import Derived.Test.YtobpbjmnonbblaaDoorQryK
import Derived.LaidMore
namespace Go.Proofs.YtobpbjmnonbblaaDoor
open Go.RowKit
set_option linter.unusedVariables false
def tyC : Ty := .st [.str, .int .i64, .bool]
def tyS : Ty := .st [.sl 3 32 tyC, .int .i64, .int .i64, .int .i64, .int .i64]
def tyN : Ty := .st [.int .i64, .int .i64, .int .i64, .int .i64, .str, .bool, .int .i64, .int .i64]
def tyG : Ty := .st [.int .i64, .int .i64]
def tyB : Ty := .st [.int .i64, .bool]
def tyQ : Ty := .st [.sl 8 72 tyN, .sl 1 8 (.int .i64), .sl 1 8 (.int .i64), .sl 2 16 tyG, .sl 2 16 tyB, .int .i64]
theorem argI {d : DV} (h : HasTy (.int .i64) d) : ∃ n, d = .int .i64 n ∧ -9223372036854775808 ≤ n ∧ n ≤ 9223372036854775807 := by
  unfold HasTy at h
  obtain ⟨n, rfl, w⟩ := h
  refine ⟨n, rfl, ?_⟩
  simp [Lit.wf, IntKind.min, IntKind.max, IntKind.signed, IntKind.bits] at w
  omega
theorem argSl {α : Type} {f : α → DV} {sz b : Nat} {t : Ty} (ht : ∀ x, HasTy t x → ∃ y, x = f y) {d : DV} (h : HasTy (.sl sz b t) d) : ∃ ys : List α, d = .list sz (ys.map f) false ∨ (d = .nils ∧ ys = []) := by
  unfold HasTy at h
  rcases h with rfl | ⟨xs, rfl, _, _, hx⟩
  · exact ⟨[], .inr ⟨rfl, rfl⟩⟩
  · have : ∀ (l : List DV), (∀ x ∈ l, HasTy t x) → ∃ ys : List α, l = ys.map f := by
      intro l
      induction l with
      | nil => intro _; exact ⟨[], rfl⟩
      | cons a l ih =>
        intro h
        obtain ⟨y, rfl⟩ := ht a (h _ (by simp))
        obtain ⟨ys, rfl⟩ := ih (fun x hx => h x (by simp [hx]))
        exact ⟨y :: ys, rfl⟩
    obtain ⟨ys, rfl⟩ := this xs (fun x h => (hx x h).1)
    exact ⟨ys, .inl rfl⟩
theorem argC {d : DV} (h0 : HasTy tyC d) : ∃ c : Cl, d = c.d := by
  unfold tyC HasTy at h0
  obtain ⟨cs, rfl, h0⟩ := h0
  unfold HasTys at h0
  obtain ⟨a, l, rfl, ha, h0⟩ := h0
  unfold HasTys at h0
  obtain ⟨b, l, rfl, hb, h0⟩ := h0
  unfold HasTys at h0
  obtain ⟨c, l, rfl, hc, h0⟩ := h0
  unfold HasTys at h0
  subst h0
  unfold HasTy at ha hb hc
  obtain ⟨s, rfl, _⟩ := ha
  obtain ⟨k, rfl, _⟩ := hb
  obtain ⟨t, rfl⟩ := hc
  exact ⟨⟨s, k, t⟩, rfl⟩
theorem argN {d : DV} (h0 : HasTy tyN d) : ∃ x : N, d = x.d := by
  unfold tyN HasTy at h0
  obtain ⟨cs, rfl, h0⟩ := h0
  unfold HasTys at h0
  obtain ⟨a, l, rfl, ha, h0⟩ := h0
  unfold HasTys at h0
  obtain ⟨b, l, rfl, hb, h0⟩ := h0
  unfold HasTys at h0
  obtain ⟨c, l, rfl, hc, h0⟩ := h0
  unfold HasTys at h0
  obtain ⟨d, l, rfl, hd, h0⟩ := h0
  unfold HasTys at h0
  obtain ⟨e, l, rfl, he, h0⟩ := h0
  unfold HasTys at h0
  obtain ⟨f, l, rfl, hf, h0⟩ := h0
  unfold HasTys at h0
  obtain ⟨g, l, rfl, hg, h0⟩ := h0
  unfold HasTys at h0
  obtain ⟨i, l, rfl, hi, h0⟩ := h0
  unfold HasTys at h0
  subst h0
  unfold HasTy at ha hb hc hd he hf hg hi
  obtain ⟨a, rfl, _⟩ := ha
  obtain ⟨b, rfl, _⟩ := hb
  obtain ⟨c, rfl, _⟩ := hc
  obtain ⟨d, rfl, _⟩ := hd
  obtain ⟨e, rfl, hs⟩ := he
  obtain ⟨f, rfl⟩ := hf
  obtain ⟨g, rfl, _⟩ := hg
  obtain ⟨i, rfl, _⟩ := hi
  exact ⟨⟨a, b, ⟨c, d, e, f⟩, g, i⟩, rfl⟩
theorem argG {d : DV} (h0 : HasTy tyG d) : ∃ x : Int × Int, d = agD x := by
  unfold tyG HasTy at h0
  obtain ⟨cs, rfl, h0⟩ := h0
  unfold HasTys at h0
  obtain ⟨a, l, rfl, ha, h0⟩ := h0
  unfold HasTys at h0
  obtain ⟨b, l, rfl, hb, h0⟩ := h0
  unfold HasTys at h0
  subst h0
  unfold HasTy at ha hb
  obtain ⟨a, rfl, _⟩ := ha
  obtain ⟨b, rfl, _⟩ := hb
  exact ⟨(a, b), rfl⟩
theorem argB {d : DV} (h0 : HasTy tyB d) : ∃ x : Int × Bool, d = byD x := by
  unfold tyB HasTy at h0
  obtain ⟨cs, rfl, h0⟩ := h0
  unfold HasTys at h0
  obtain ⟨a, l, rfl, ha, h0⟩ := h0
  unfold HasTys at h0
  obtain ⟨b, l, rfl, hb, h0⟩ := h0
  unfold HasTys at h0
  subst h0
  unfold HasTy at ha hb
  obtain ⟨a, rfl, _⟩ := ha
  obtain ⟨b, rfl⟩ := hb
  exact ⟨(a, b), rfl⟩
theorem argS {d : DV} (h0 : HasTy tyS d) : ∃ (Cd : DV) (s : Sch), d = schD Cd s ∧ (∀ g, vw g 3 Cd = some (s.cols.map Cl.d)) ∧ Cd.one = true := by
  unfold tyS HasTy at h0
  obtain ⟨cs, rfl, h0⟩ := h0
  unfold HasTys at h0
  obtain ⟨a, l, rfl, ha, h0⟩ := h0
  unfold HasTys at h0
  obtain ⟨b, l, rfl, hb, h0⟩ := h0
  unfold HasTys at h0
  obtain ⟨c, l, rfl, hc, h0⟩ := h0
  unfold HasTys at h0
  obtain ⟨d, l, rfl, hd, h0⟩ := h0
  unfold HasTys at h0
  obtain ⟨e, l, rfl, he, h0⟩ := h0
  unfold HasTys at h0
  subst h0
  obtain ⟨cols, hcols⟩ := argSl (f := Cl.d) (fun x hx => argC hx) ha
  obtain ⟨b, rfl, _⟩ := argI hb
  obtain ⟨c, rfl, _⟩ := argI hc
  obtain ⟨d, rfl, _⟩ := argI hd
  obtain ⟨e, rfl, _⟩ := argI he
  refine ⟨a, ⟨cols, b, c, d, e⟩, rfl, fun g => ?_, ?_⟩
  · rcases hcols with rfl | ⟨rfl, rfl⟩ <;> rfl
  · rcases hcols with rfl | ⟨rfl, rfl⟩ <;> rfl
theorem argQ {d : DV} (h0 : HasTy tyQ d) : ∃ (F Cn Gr Ag So : DV) (q : Qry), d = .agg (qryC F Cn Gr Ag So q.lim) ∧ ∀ (Cd : DV) (s : Sch), (∀ g, vw g 3 Cd = some (s.cols.map Cl.d)) → Cd.one = true → Args Cd F Cn Gr Ag So s q := by
  unfold tyQ HasTy at h0
  obtain ⟨cs, rfl, h0⟩ := h0
  unfold HasTys at h0
  obtain ⟨a, l, rfl, ha, h0⟩ := h0
  unfold HasTys at h0
  obtain ⟨b, l, rfl, hb, h0⟩ := h0
  unfold HasTys at h0
  obtain ⟨c, l, rfl, hc, h0⟩ := h0
  unfold HasTys at h0
  obtain ⟨d, l, rfl, hd, h0⟩ := h0
  unfold HasTys at h0
  obtain ⟨e, l, rfl, he, h0⟩ := h0
  unfold HasTys at h0
  obtain ⟨f, l, rfl, hf, h0⟩ := h0
  unfold HasTys at h0
  subst h0
  have hint : ∀ x, HasTy (.int .i64) x → ∃ y, x = intD y := fun x hx => by obtain ⟨n, rfl, _⟩ := argI hx; exact ⟨n, rfl⟩
  obtain ⟨fl, h1⟩ := argSl (f := N.d) (fun x hx => argN hx) ha
  obtain ⟨co, h2⟩ := argSl (f := intD) hint hb
  obtain ⟨gr, h3⟩ := argSl (f := intD) hint hc
  obtain ⟨ag, h4⟩ := argSl (f := agD) (fun x hx => argG hx) hd
  obtain ⟨so, h5⟩ := argSl (f := byD) (fun x hx => argB hx) he
  obtain ⟨lim, rfl, _⟩ := argI hf
  refine ⟨a, b, c, d, e, ⟨fl, co, gr, ag, so, lim⟩, rfl, fun Cd s hC ho => ⟨hC, fun g => ?_, fun g => ?_, ?_, ?_, fun g => ?_, fun g => ?_, ho, ?_, ?_, ?_⟩⟩
  · rcases h1 with rfl | ⟨rfl, rfl⟩ <;> rfl
  · rcases h1 with rfl | ⟨rfl, rfl⟩ <;> rfl
  · rcases h2 with rfl | ⟨rfl, rfl⟩
    · exact .inl ⟨false, rfl⟩
    · exact .inr ⟨rfl, rfl⟩
  · rcases h3 with rfl | ⟨rfl, rfl⟩
    · exact .inl ⟨false, rfl⟩
    · exact .inr ⟨rfl, rfl⟩
  · rcases h4 with rfl | ⟨rfl, rfl⟩ <;> rfl
  · rcases h5 with rfl | ⟨rfl, rfl⟩ <;> rfl
  · rcases h1 with rfl | ⟨rfl, rfl⟩ <;> rfl
  · rcases h4 with rfl | ⟨rfl, rfl⟩ <;> rfl
  · rcases h5 with rfl | ⟨rfl, rfl⟩ <;> rfl
/-- No table is looked at. -/
theorem tabs_db {l : List (String × DataW Unit)} {W : World} (h : laidMetH Tryd.prog l W) : Tabs B0 W [] := fun p hp => by simp [tabs] at hp
end Go.Proofs.YtobpbjmnonbblaaDoor
