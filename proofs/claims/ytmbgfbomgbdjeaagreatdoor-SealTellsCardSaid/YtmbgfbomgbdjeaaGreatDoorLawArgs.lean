/- Ideal runs. -/
import Derived.Test.YtmbgfbomgbdjeaaGreatDoorRows
import Derived.Test.YtmbgfbomgbdjeaaGreatDoorFrameA
import Derived.Test.YtmbgfbomgbdjeaaGreatDoorSoA
import Derived.LaidMore
namespace Go.Proofs.YtmbgfbomgbdjeaaGreatDoor
open Go.RowKit
set_option linter.unusedVariables false
def Jm : Ty := .st [.int .i64, .int .i64, .str, .bool]
def LQ : Ty := .sl 4 40 Jm
theorem Uc {d : DV} (h0 : HasTy Jm d) : ∃ v : V, d = v.d ∧ Sm v := by
 unfold Jm HasTy at h0
 obtain ⟨cs, rfl, h0⟩ := h0
 unfold aC at h0
 obtain ⟨a, l, rfl, ha, h0⟩ := h0
 unfold aC at h0
 obtain ⟨b, l, rfl, hb, h0⟩ := h0
 unfold aC at h0
 obtain ⟨c, l, rfl, hc, h0⟩ := h0
 unfold aC at h0
 obtain ⟨d, l, rfl, hd, h0⟩ := h0
 unfold aC at h0
 subst h0
 unfold HasTy at ha hb hc hd
 obtain ⟨k, rfl, _⟩ := ha
 obtain ⟨n, rfl, _⟩ := hb
 obtain ⟨s, rfl, hs⟩ := hc
 obtain ⟨t, rfl⟩ := hd
 refine ⟨⟨k, n, s, t⟩, rfl, ?_⟩
 show s.size ≤ _
 exact Nat.le_trans hs (by decide)
theorem argI {d : DV} (h : HasTy (.int .i64) d) : ∃ n, d = .int .i64 n ∧ -9223372036854775808 ≤ n ∧ n ≤ 9223372036854775807 := by
 unfold HasTy at h
 obtain ⟨n, rfl, w⟩ := h
 refine ⟨n, rfl, ?_⟩
 simp [Lit.wf, IntKind.min, IntKind.max, IntKind.signed, IntKind.bits] at w
 omega
theorem Ud {d : DV} (h : HasTy LQ d) : ∃ xs : List V, (d = .list 4 (xs.map V.d) false ∨ (d = .nils ∧ xs = [])) ∧ (∀ x ∈ xs, Sm x) ∧ xs.length ≤ reachBytes := by
 unfold LQ HasTy at h
 rcases h with rfl | ⟨xs, rfl, hb, _, hx⟩
 ·exact ⟨[], .inr ⟨rfl, rfl⟩, by simp, by simp⟩
 ·have : ∀ (l : List DV), (∀ x ∈ l, HasTy Jm x) → ∃ ys : List V, l = ys.map V.d ∧ ∀ x ∈ ys, Sm x := by
   intro l
   induction l with
   | nil => intro _; exact ⟨[], rfl, by simp⟩
   | cons a l ih =>
    intro h
    obtain ⟨v, rfl, hv⟩ := Uc (h a (by simp))
    obtain ⟨ys, rfl, hys⟩ := ih (fun x hx => h x (by simp [hx]))
    refine ⟨v :: ys, rfl, ?_⟩
    intro x hx
    rcases List.mem_cons.1 hx with rfl | hx
    ·exact hv
    ·exact hys x hx
  obtain ⟨ys, rfl, hys⟩ := this xs (fun x h => (hx x h).1)
  refine ⟨ys, .inl rfl, hys, ?_⟩
  simp at hb
  omega
def LU : Ty := .sl 1 1 (.int .u8)
def DI : Ty := .st [.int .i64, LQ, LU]
def LR : Ty := .sl 1 8 (.int .i64)
def tyG : Ty := .st [.int .i64, .int .i64, .int .i64, .int .i64, LR, .sl 3 56 DI]
theorem Uf {d : DV} (h : HasTy LU d) : ∃ bs : List Nat, bK d bs ∧ BB bs := by
 unfold LU HasTy at h
 rcases h with rfl | ⟨xs, rfl, hb, _, hx⟩
 ·exact ⟨[], .inl ⟨rfl, rfl⟩, fun x hx => by cases hx⟩
 ·have : ∀ (l : List DV), (∀ x ∈ l, HasTy (.int .u8) x) → ∃ bs : List Nat, l = bs.map bD ∧ BB bs := by
   intro l
   induction l with
   | nil => intro _; exact ⟨[], rfl, fun x hx => by cases hx⟩
   | cons a l ih =>
    intro h
    have ha := h a (by simp)
    unfold HasTy at ha
    obtain ⟨n, rfl, w⟩ := ha
    simp [Lit.wf, IntKind.min, IntKind.max, IntKind.signed, IntKind.bits] at w
    obtain ⟨bs, rfl, hbs⟩ := ih (fun x hx => h x (by simp [hx]))
    refine ⟨n.toNat :: bs, ?_, ?_⟩
    ·have : ((n.toNat : Nat) : Int) = n := by omega
     simp [this]
    ·intro x hx
     rcases List.mem_cons.1 hx with rfl | hx
     ·omega
     ·exact hbs x hx
  obtain ⟨bs, rfl, hbs⟩ := this xs (fun x h => (hx x h).1)
  exact ⟨bs, .inr rfl, hbs⟩
theorem Ue {d : DV} (h0 : HasTy DI d) : ∃ c : RC, d = c.d ∧ c.Raw := by
 unfold DI HasTy at h0
 obtain ⟨cs, rfl, h0⟩ := h0
 unfold aC at h0
 obtain ⟨a, l, rfl, ha, h0⟩ := h0
 unfold aC at h0
 obtain ⟨b, l, rfl, hb, h0⟩ := h0
 unfold aC at h0
 obtain ⟨c, l, rfl, hc, h0⟩ := h0
 unfold aC at h0
 subst h0
 unfold HasTy at ha
 obtain ⟨n, rfl, _⟩ := ha
 obtain ⟨ys, hD, tY, _⟩ := Ud hb
 obtain ⟨bs, hB, hbb⟩ := Uf hc
 exact ⟨⟨n, ys, bs, b, c⟩, rfl, ⟨hD, tY, hB, hbb⟩⟩
theorem Rm {d : DV} (h : HasTy (.sl 3 56 DI) d) : ∃ cs : List RC, (∀ g, vw g 3 d = some (cs.map RC.d)) ∧ (∀ c ∈ cs, c.Raw) ∧ d.one = true := by
 unfold HasTy at h
 rcases h with rfl | ⟨xs, rfl, hb, _, hx⟩
 ·exact ⟨[], fun _ => rfl, (fun c hc => by cases hc), rfl⟩
 ·have : ∀ (l : List DV), (∀ x ∈ l, HasTy DI x) → ∃ cs : List RC, l = cs.map RC.d ∧ ∀ c ∈ cs, c.Raw := by
   intro l
   induction l with
   | nil => intro _; exact ⟨[], rfl, fun c hc => by cases hc⟩
   | cons a l ih =>
    intro h
    obtain ⟨c, rfl, hc⟩ := Ue (h a (by simp))
    obtain ⟨cs, rfl, hcs⟩ := ih (fun x hx => h x (by simp [hx]))
    refine ⟨c :: cs, rfl, fun q hq => ?_⟩
    rcases List.mem_cons.1 hq with rfl | hq
    ·exact hc
    ·exact hcs q hq
  obtain ⟨cs, rfl, hcs⟩ := this xs (fun x h => (hx x h).1)
  exact ⟨cs, fun _ => rfl, hcs, rfl⟩
def GB : Ty := .st [.str, .int .i64, .bool]
def tyS : Ty := .st [.sl 3 32 GB, .int .i64, .int .i64, .int .i64, .int .i64]
theorem Kw {α : Type} {f : α → DV} {sz b : Nat} {t : Ty} (ht : ∀ x, HasTy t x → ∃ y, x = f y) {d : DV} (h : HasTy (.sl sz b t) d) : ∃ ys : List α, d = .list sz (ys.map f) false ∨ (d = .nils ∧ ys = []) := by
 unfold HasTy at h
 rcases h with rfl | ⟨xs, rfl, _, _, hx⟩
 ·exact ⟨[], .inr ⟨rfl, rfl⟩⟩
 ·have : ∀ (l : List DV), (∀ x ∈ l, HasTy t x) → ∃ ys : List α, l = ys.map f := by
   intro l
   induction l with
   | nil => intro _; exact ⟨[], rfl⟩
   | cons a l ih =>
    intro h
    obtain ⟨y, rfl⟩ := ht a (h _ (by simp))
    obtain ⟨ys, rfl⟩ := ih (fun x hx => h x (by simp [hx]))
    exact ⟨y :: ys, rfl⟩
  obtain ⟨ys, rfl⟩ := this xs (fun x h => (hx x h).1)
  exact ⟨ys, .inl rfl⟩
theorem Rn {d : DV} (h0 : HasTy GB d) : ∃ c : Cl, d = c.d := by
 unfold GB HasTy at h0
 obtain ⟨cs, rfl, h0⟩ := h0
 unfold aC at h0
 obtain ⟨a, l, rfl, ha, h0⟩ := h0
 unfold aC at h0
 obtain ⟨b, l, rfl, hb, h0⟩ := h0
 unfold aC at h0
 obtain ⟨c, l, rfl, hc, h0⟩ := h0
 unfold aC at h0
 subst h0
 unfold HasTy at ha hb hc
 obtain ⟨s, rfl, _⟩ := ha
 obtain ⟨k, rfl, _⟩ := hb
 obtain ⟨t, rfl⟩ := hc
 exact ⟨⟨s, k, t⟩, rfl⟩
theorem argS {d : DV} (h0 : HasTy tyS d) : ∃ (Cd : DV) (s : Sch), d = Yl Cd s ∧ (∀ g, vw g 3 Cd = some (s.cols.map Cl.d)) ∧ Cd.one = true := by
 unfold tyS HasTy at h0
 obtain ⟨cs, rfl, h0⟩ := h0
 unfold aC at h0
 obtain ⟨a, l, rfl, ha, h0⟩ := h0
 unfold aC at h0
 obtain ⟨b, l, rfl, hb, h0⟩ := h0
 unfold aC at h0
 obtain ⟨c, l, rfl, hc, h0⟩ := h0
 unfold aC at h0
 obtain ⟨d, l, rfl, hd, h0⟩ := h0
 unfold aC at h0
 obtain ⟨e, l, rfl, he, h0⟩ := h0
 unfold aC at h0
 subst h0
 obtain ⟨cols, mU⟩ := Kw (f := Cl.d) (fun x hx => Rn hx) ha
 obtain ⟨b, rfl, _⟩ := argI hb
 obtain ⟨c, rfl, _⟩ := argI hc
 obtain ⟨d, rfl, _⟩ := argI hd
 obtain ⟨e, rfl, _⟩ := argI he
 refine ⟨a, ⟨cols, b, c, d, e⟩, rfl, fun g => ?_, ?_⟩
 ·rcases mU with rfl | ⟨rfl, rfl⟩ <;> rfl
 ·rcases mU with rfl | ⟨rfl, rfl⟩ <;> rfl
theorem Rl {d : DV} (h : HasTy LR d) : ∃ zs : List Int, qR d zs := by
 unfold LR at h
 obtain ⟨zs, hz⟩ := Kw (f := intD) (fun x hx => by
  obtain ⟨n, rfl, _⟩ := argI hx
  exact ⟨n, rfl⟩) h
 rcases hz with rfl | ⟨rfl, rfl⟩
 ·exact ⟨zs, .inr rfl⟩
 ·exact ⟨[], .inl ⟨rfl, rfl⟩⟩
theorem argG {d : DV} (h0 : HasTy tyG d) : ∃ p1 p2 p3 p4 Of Cs os cs, d = .agg [.int .i64 p1, .int .i64 p2, .int .i64 p3, .int .i64 p4, Of, Cs] ∧ SegN Of Cs os cs ∧ Of.one = true ∧ Cs.one = true := by
 unfold tyG HasTy at h0
 obtain ⟨cs, rfl, h0⟩ := h0
 unfold aC at h0
 obtain ⟨a, l, rfl, ha, h0⟩ := h0
 unfold aC at h0
 obtain ⟨b, l, rfl, hb, h0⟩ := h0
 unfold aC at h0
 obtain ⟨c, l, rfl, hc, h0⟩ := h0
 unfold aC at h0
 obtain ⟨d, l, rfl, hd, h0⟩ := h0
 unfold aC at h0
 obtain ⟨e, l, rfl, he, h0⟩ := h0
 unfold aC at h0
 obtain ⟨f, l, rfl, hf, h0⟩ := h0
 unfold aC at h0
 subst h0
 unfold HasTy at ha hb hc hd
 obtain ⟨p1, rfl, _⟩ := ha
 obtain ⟨p2, rfl, _⟩ := hb
 obtain ⟨p3, rfl, _⟩ := hc
 obtain ⟨p4, rfl, _⟩ := hd
 obtain ⟨os, ho⟩ := Rl he
 obtain ⟨cs, hcs, hr, h1⟩ := Rm hf
 exact ⟨p1, p2, p3, p4, e, f, os, cs, rfl, ⟨ho, hcs, hr⟩, by rcases ho with ⟨rfl, _⟩ | rfl <;> rfl, h1⟩
theorem tabs_no {p : Prop} {W : World} (h : p) : Dm B0 W [] := fun q hq => by cases hq
end Go.Proofs.YtmbgfbomgbdjeaaGreatDoor
