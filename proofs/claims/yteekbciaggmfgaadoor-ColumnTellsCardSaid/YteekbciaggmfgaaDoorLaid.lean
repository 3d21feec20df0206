/- Ideal runs. -/
import Derived.Test.YteekbciaggmfgaaDoorFrameA
import Derived.OpenShut
import Derived.FnData
import Derived.ChangeArms
import Derived.Test.YteekbciaggmfgaaDoorRows
import Derived.Test.YteekbciaggmfgaaDoorColX
import Derived.Test.YteekbciaggmfgaaDoorNumP
import Derived.LaidMore
namespace Go.Proofs.YteekbciaggmfgaaDoor
open Go.RowKit Go.ChangeShapes Go.WideShapes
set_option linter.unusedVariables false
set_option linter.unusedSimpArgs false
theorem wE {P : Program} {W : World} {rest : List (String × DataW Unit)} {name : String} {g t n e : Nat} {k : IntKind} {l : List Int} (h : laidMet P ((name, .agg (l.map fun i => .lit (.int k i))) :: rest) W)
 (hg : P.globalNamed name = some g) (ht : (P.globals[g]?).map (·.type) = some t) (hu : P.underlying t = some (.array n e)) (he : P.underlying e = some (.int k)) (hc : P.cellsOf e = 1) (hn : l.length = n) :
 RV B0 W [] (.list (l.map (DV.int k)).length [.agg (l.map (DV.int k))] true) (.slice (some ⟨g, 0, none⟩) 1 1) ∧ ∀ x ∈ l.map (DV.int k), Nr x := by
 obtain ⟨ps, ⟨g0, t0, BF, f0, p0, q0, hg0, ht0, hv0, eE, _⟩, _, _⟩ := h
 obtain rfl := Option.some.inj (hg.symm.trans hg0)
 obtain rfl := Option.some.inj (ht.symm.trans ht0)
 obtain ⟨xs, m1, rfl, iS, hlen, EF, hel⟩ := DataW.trod_array hu eE
 simp only [Prod.mk.injEq, DataW.agg.injEq] at iS
 have hcell : ∀ j : Nat, j < n → ∃ i : Int, l[j]? = some i ∧ W.cell? ⟨g, j, none⟩ = some (.int k i) := by
  intro j hj
  have h1 := hel j hj
  rw [hc, Nat.mul_one] at h1
  have Li : xs[j]? = some (xs[j]'(by omega)) := List.getElem?_eq_getElem (by omega)
  rw [Li] at h1
  obtain ⟨i, e1, e2, _⟩ := DataW.trod_int he h1
  have LB : l[j]? = some (l[j]'(by omega)) := List.getElem?_eq_getElem (by omega)
  have e3 : (l.map fun i => (DataW.lit (.int k i) : DataW Unit))[j]? = (xs.map (·.1))[j]? := by rw [iS.1]
  rw [List.getElem?_map, List.getElem?_map, LB, Li, e2] at e3
  simp only [Option.map_some, Option.some.injEq, DataW.lit.injEq, Lit.int.injEq, true_and] at e3
  refine ⟨i, by rw [LB, e3], ?_⟩
  have hv := World.var?_cell hg0 hv0 j
  rw [hv]
  have e4 : BF.toList[j]? = some (.int k i) := by
   have : ((BF.toList.drop j).take 1)[0]? = some (Value.int k i) := by rw [e1]; rfl
   rw [List.getElem?_take, if_pos (by omega), List.getElem?_drop] at this
   simpa using this
  simpa using e4
 have hnr : ∀ x ∈ l.map (DV.int k), Nr x := by
  intro x hx
  obtain ⟨z, _, rfl⟩ := List.mem_map.1 hx
  exact .int _ _
 refine ⟨?_, hnr⟩
 have hfl : flat [DV.agg (l.map (DV.int k))] = l.map (DV.int k) := by simp [flat, DV.cells]
 refine .list (vs := l.map (Value.int k)) (by simp) (by simp) (fun _ => rfl) (fun x hx => ?_) (fun x hx => ?_) ?_ ?_
 ·rw [List.mem_singleton.1 hx]; exact .agg hnr
 ·rw [List.mem_singleton.1 hx]
  refine ⟨rfl, fun c hc => ?_⟩
  obtain ⟨z, _, rfl⟩ := List.mem_map.1 hc
  rfl
 ·rw [hfl]
  refine RVs.of_get (by simp) (fun i d v h1 h2 => ?_)
  rw [List.getElem?_map] at h1 h2
  cases hi : l[i]? with
  | none => rw [hi] at h1; cases h1
  | some z =>
   rw [hi] at h1 h2
   injection h1 with h1; injection h2 with h2
   subst h1; subst h2
   exact .int _ _
 ·intro j v hj
  rw [List.getElem?_map] at hj
  have rj : j < n := by
   by_cases c : j < l.length
   ·omega
   ·rw [List.getElem?_eq_none (by omega)] at hj; cases hj
  obtain ⟨i, h1, h2⟩ := hcell j rj
  rw [h1] at hj
  injection hj with hj; subst hj
  refine ⟨fun o ho => (by cases ho), ?_⟩
  show W.cell? (Addr.add ⟨g, 0, none⟩ j) = _
  by_cases c : j = 0
  ·subst c; simpa [Addr.add] using h2
  ·simpa [Addr.add, c] using h2
end Go.Proofs.YteekbciaggmfgaaDoor
namespace Go.Proofs.YteekbciaggmfgaaDoor
open Go.RowKit
set_option linter.unusedVariables false
def D5 : Ty := .st [.int .i64, .int .i64, .str, .bool]
def F2 : Ty := .sl 4 40 D5
def F3 : Ty := .sl 1 1 (.int .u8)
def tyC : Ty := .st [.int .i64, F2, F3]
theorem argI {d : DV} (h : HasTy (.int .i64) d) : ∃ n, d = .int .i64 n ∧ -9223372036854775808 ≤ n ∧ n ≤ 9223372036854775807 := by
 unfold HasTy at h
 obtain ⟨n, rfl, w⟩ := h
 refine ⟨n, rfl, ?_⟩
 simp [Lit.wf, IntKind.min, IntKind.max, IntKind.signed, IntKind.bits] at w
 omega
theorem Nk {d : DV} (h0 : HasTy D5 d) : ∃ v : V, d = v.d ∧ Sm v ∧ lh v := by
 unfold D5 HasTy at h0
 obtain ⟨cs, rfl, h0⟩ := h0
 unfold aP at h0
 obtain ⟨a, l, rfl, ha, h0⟩ := h0
 unfold aP at h0
 obtain ⟨b, l, rfl, hb, h0⟩ := h0
 unfold aP at h0
 obtain ⟨c, l, rfl, hc, h0⟩ := h0
 unfold aP at h0
 obtain ⟨d, l, rfl, hd, h0⟩ := h0
 unfold aP at h0
 subst h0
 obtain ⟨n, rfl, hn⟩ := argI hb
 unfold HasTy at ha hc hd
 obtain ⟨k, rfl, _⟩ := ha
 obtain ⟨s, rfl, hs⟩ := hc
 obtain ⟨t, rfl⟩ := hd
 refine ⟨⟨k, n, s, t⟩, rfl, ?_, hn⟩
 show s.size ≤ _
 exact Nat.le_trans hs (by decide)
theorem Nl {d : DV} (h : HasTy F2 d) : ∃ xs : List V, df d xs ∧ (∀ x ∈ xs, Sm x) ∧ (∀ x ∈ xs, lh x) ∧ xs.length ≤ reachBytes := by
 unfold F2 HasTy at h
 rcases h with rfl | ⟨xs, rfl, hb, _, hx⟩
 ·exact ⟨[], .inr ⟨rfl, rfl⟩, by simp, by simp, by simp⟩
 ·have : ∀ (l : List DV), (∀ x ∈ l, HasTy D5 x) → ∃ ys : List V, l = ys.map V.d ∧ (∀ x ∈ ys, Sm x) ∧ ∀ x ∈ ys, lh x := by
   intro l
   induction l with
   | nil => intro _; exact ⟨[], rfl, by simp, by simp⟩
   | cons a l ih =>
    intro h
    obtain ⟨v, rfl, hv, hn⟩ := Nk (h a (by simp))
    obtain ⟨ys, rfl, hys, hns⟩ := ih (fun x hx => h x (by simp [hx]))
    refine ⟨v :: ys, rfl, ?_, ?_⟩
    ·intro x hx
     rcases List.mem_cons.1 hx with rfl | hx
     ·exact hv
     ·exact hys x hx
    ·intro x hx
     rcases List.mem_cons.1 hx with rfl | hx
     ·exact hn
     ·exact hns x hx
  obtain ⟨ys, rfl, hys, hns⟩ := this xs (fun x h => (hx x h).1)
  refine ⟨ys, .inl rfl, hys, hns, ?_⟩
  simp at hb
  omega
theorem Nn {d : DV} (h : HasTy F3 d) : ∃ bs : List Nat, aC d bs ∧ BB bs := by
 unfold F3 HasTy at h
 rcases h with rfl | ⟨xs, rfl, hb, _, hx⟩
 ·exact ⟨[], .inl ⟨rfl, rfl⟩, fun x hx => by cases hx⟩
 ·have : ∀ (l : List DV), (∀ x ∈ l, HasTy (.int .u8) x) → ∃ bs : List Nat, l = bs.map bD ∧ BB bs := by
   intro l
   induction l with
   | nil => intro _; exact ⟨[], rfl, fun x hx => by cases hx⟩
   | cons a l ih =>
    intro h
    have ha := h a (by simp)
    unfold HasTy at ha
    obtain ⟨n, rfl, w⟩ := ha
    simp [Lit.wf, IntKind.min, IntKind.max, IntKind.signed, IntKind.bits] at w
    obtain ⟨bs, rfl, hbs⟩ := ih (fun x hx => h x (by simp [hx]))
    refine ⟨n.toNat :: bs, ?_, ?_⟩
    ·have : ((n.toNat : Nat) : Int) = n := by omega
     simp [this]
    ·intro x hx
     rcases List.mem_cons.1 hx with rfl | hx
     ·omega
     ·exact hbs x hx
  obtain ⟨bs, rfl, hbs⟩ := this xs (fun x h => (hx x h).1)
  exact ⟨bs, .inr rfl, hbs⟩
theorem argC {d : DV} (h0 : HasTy tyC d) : ∃ c : RC, d = c.d ∧ c.Raw ∧ ∀ v ∈ c.ys, lh v := by
 unfold tyC HasTy at h0
 obtain ⟨cs, rfl, h0⟩ := h0
 unfold aP at h0
 obtain ⟨a, l, rfl, ha, h0⟩ := h0
 unfold aP at h0
 obtain ⟨b, l, rfl, hb, h0⟩ := h0
 unfold aP at h0
 obtain ⟨c, l, rfl, hc, h0⟩ := h0
 unfold aP at h0
 subst h0
 unfold HasTy at ha
 obtain ⟨n, rfl, _⟩ := ha
 obtain ⟨ys, hD, gL, hin, _⟩ := Nl hb
 obtain ⟨bs, hB, hbb⟩ := Nn hc
 exact ⟨⟨n, ys, bs, b, c⟩, rfl, ⟨hD, gL, hB, hbb⟩, hin⟩
theorem OS : Tryd.prog.globalNamed "math/bits.deBruijn64tab" = some 0 := by kernel_rfl
theorem tabs_db {W : World} (h : laidMetH Tryd.prog [("math/bits.deBruijn64tab", Rows.laid_math_bits_deBruijn64tab)] W) : kK B0 W [] := by
 rw [MakeChecks.laidMetH_plain _ _ _ (by kernel_rfl)] at h
 intro p hp
 simp only [tabs, List.mem_singleton] at hp
 subst hp
 exact wE (l := jc) (t := 114) (e := 5) h OS (by kernel_rfl) (by kernel_rfl) (by kernel_rfl) (by kernel_rfl) rfl
end Go.Proofs.YteekbciaggmfgaaDoor
