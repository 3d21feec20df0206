/- A table of numbers that is laid, as an ideal table. What the arguments are; what the condition on the table gives. -/
import Derived.Test.YtojhkbbnkhfnhaaGreatDoorFrameA
import Derived.OpenShut
import Derived.FnData
import Derived.ChangeArms
import Derived.Test.YtojhkbbnkhfnhaaGreatDoorRows
import Derived.Test.YtojhkbbnkhfnhaaGreatDoorNod
import Derived.Test.YtojhkbbnkhfnhaaGreatDoorSealA
import Derived.LaidMore
namespace Go.Proofs.YtojhkbbnkhfnhaaGreatDoor
open Go.RowKit Go.ChangeShapes Go.WideShapes
set_option linter.unusedVariables false
set_option linter.unusedSimpArgs false
theorem tab_of_laid {P : Program} {W : World} {rest : List (String × DataW Unit)} {name : String} {g t n e : Nat} {k : IntKind} {l : List Int} (h : laidMet P ((name, .agg (l.map fun i => .lit (.int k i))) :: rest) W)
    (hg : P.globalNamed name = some g) (ht : (P.globals[g]?).map (·.type) = some t) (hu : P.underlying t = some (.array n e)) (he : P.underlying e = some (.int k)) (hc : P.cellsOf e = 1) (hn : l.length = n) :
    RV B0 W [] (.list (l.map (DV.int k)).length [.agg (l.map (DV.int k))] true) (.slice (some ⟨g, 0, none⟩) 1 1) ∧ ∀ x ∈ l.map (DV.int k), Nr x := by
  obtain ⟨ps, ⟨g0, t0, cs0, f0, p0, q0, hg0, ht0, hv0, hd0, _⟩, _, _⟩ := h
  obtain rfl := Option.some.inj (hg.symm.trans hg0)
  obtain rfl := Option.some.inj (ht.symm.trans ht0)
  obtain ⟨xs, m1, rfl, hx1, hlen, hn3, hel⟩ := DataW.trod_array hu hd0
  simp only [Prod.mk.injEq, DataW.agg.injEq] at hx1
  have hcell : ∀ j : Nat, j < n → ∃ i : Int, l[j]? = some i ∧ W.cell? ⟨g, j, none⟩ = some (.int k i) := by
    intro j hj
    have h1 := hel j hj
    rw [hc, Nat.mul_one] at h1
    have hxj : xs[j]? = some (xs[j]'(by omega)) := List.getElem?_eq_getElem (by omega)
    rw [hxj] at h1
    obtain ⟨i, e1, e2, _⟩ := DataW.trod_int he h1
    have hlj : l[j]? = some (l[j]'(by omega)) := List.getElem?_eq_getElem (by omega)
    have e3 : (l.map fun i => (DataW.lit (.int k i) : DataW Unit))[j]? = (xs.map (·.1))[j]? := by rw [hx1.1]
    rw [List.getElem?_map, List.getElem?_map, hlj, hxj, e2] at e3
    simp only [Option.map_some, Option.some.injEq, DataW.lit.injEq, Lit.int.injEq, true_and] at e3
    refine ⟨i, by rw [hlj, e3], ?_⟩
    have hv := World.var?_cell hg0 hv0 j
    rw [hv]
    have e4 : cs0.toList[j]? = some (.int k i) := by
      have : ((cs0.toList.drop j).take 1)[0]? = some (Value.int k i) := by rw [e1]; rfl
      rw [List.getElem?_take, if_pos (by omega), List.getElem?_drop] at this
      simpa using this
    simpa using e4
  have hnr : ∀ x ∈ l.map (DV.int k), Nr x := by
    intro x hx
    obtain ⟨z, _, rfl⟩ := List.mem_map.1 hx
    exact .int _ _
  refine ⟨?_, hnr⟩
  have hfl : flat [DV.agg (l.map (DV.int k))] = l.map (DV.int k) := by simp [flat, DV.cells]
  refine .list (vs := l.map (Value.int k)) (by simp) (by simp) (fun _ => rfl) (fun x hx => ?_) (fun x hx => ?_) ?_ ?_
  · rw [List.mem_singleton.1 hx]; exact .agg hnr
  · rw [List.mem_singleton.1 hx]
    refine ⟨rfl, fun c hc => ?_⟩
    obtain ⟨z, _, rfl⟩ := List.mem_map.1 hc
    rfl
  · rw [hfl]
    refine RVs.of_get (by simp) (fun i d v h1 h2 => ?_)
    rw [List.getElem?_map] at h1 h2
    cases hi : l[i]? with
    | none => rw [hi] at h1; cases h1
    | some z =>
      rw [hi] at h1 h2
      injection h1 with h1; injection h2 with h2
      subst h1; subst h2
      exact .int _ _
  · intro j v hj
    rw [List.getElem?_map] at hj
    have hjl : j < n := by
      by_cases c : j < l.length
      · omega
      · rw [List.getElem?_eq_none (by omega)] at hj; cases hj
    obtain ⟨i, h1, h2⟩ := hcell j hjl
    rw [h1] at hj
    injection hj with hj; subst hj
    refine ⟨fun o ho => (by cases ho), ?_⟩
    show W.cell? (Addr.add ⟨g, 0, none⟩ j) = _
    by_cases c : j = 0
    · subst c; simpa [Addr.add] using h2
    · simpa [Addr.add, c] using h2
end Go.Proofs.YtojhkbbnkhfnhaaGreatDoor
namespace Go.Proofs.YtojhkbbnkhfnhaaGreatDoor
open Go.RowKit
set_option linter.unusedVariables false
def tyV : Ty := .st [.int .i64, .int .i64, .str, .bool]
def tyL : Ty := .sl 4 40 tyV
def tyN : Ty := .st [.int .i64, .int .i64, .int .i64, .int .i64, .str, .bool, .int .i64, .int .i64]
def tyF : Ty := .sl 8 72 tyN
theorem argV {d : DV} (h0 : HasTy tyV d) : ∃ v : V, d = v.d ∧ Sm v := by
  unfold tyV HasTy at h0
  obtain ⟨cs, rfl, h0⟩ := h0
  unfold HasTys at h0
  obtain ⟨a, l, rfl, ha, h0⟩ := h0
  unfold HasTys at h0
  obtain ⟨b, l, rfl, hb, h0⟩ := h0
  unfold HasTys at h0
  obtain ⟨c, l, rfl, hc, h0⟩ := h0
  unfold HasTys at h0
  obtain ⟨d, l, rfl, hd, h0⟩ := h0
  unfold HasTys at h0
  subst h0
  unfold HasTy at ha hb hc hd
  obtain ⟨k, rfl, _⟩ := ha
  obtain ⟨n, rfl, _⟩ := hb
  obtain ⟨s, rfl, hs⟩ := hc
  obtain ⟨t, rfl⟩ := hd
  refine ⟨⟨k, n, s, t⟩, rfl, ?_⟩
  show s.size ≤ _
  exact Nat.le_trans hs (by decide)
theorem argN {d : DV} (h0 : HasTy tyN d) : ∃ x : N, d = x.d ∧ Sm x.val := by
  unfold tyN HasTy at h0
  obtain ⟨cs, rfl, h0⟩ := h0
  unfold HasTys at h0
  obtain ⟨a, l, rfl, ha, h0⟩ := h0
  unfold HasTys at h0
  obtain ⟨b, l, rfl, hb, h0⟩ := h0
  unfold HasTys at h0
  obtain ⟨c, l, rfl, hc, h0⟩ := h0
  unfold HasTys at h0
  obtain ⟨d, l, rfl, hd, h0⟩ := h0
  unfold HasTys at h0
  obtain ⟨e, l, rfl, he, h0⟩ := h0
  unfold HasTys at h0
  obtain ⟨f, l, rfl, hf, h0⟩ := h0
  unfold HasTys at h0
  obtain ⟨g, l, rfl, hg, h0⟩ := h0
  unfold HasTys at h0
  obtain ⟨i, l, rfl, hi, h0⟩ := h0
  unfold HasTys at h0
  subst h0
  unfold HasTy at ha hb hc hd he hf hg hi
  obtain ⟨a, rfl, _⟩ := ha
  obtain ⟨b, rfl, _⟩ := hb
  obtain ⟨c, rfl, _⟩ := hc
  obtain ⟨d, rfl, _⟩ := hd
  obtain ⟨e, rfl, hs⟩ := he
  obtain ⟨f, rfl⟩ := hf
  obtain ⟨g, rfl, _⟩ := hg
  obtain ⟨i, rfl, _⟩ := hi
  refine ⟨⟨a, b, ⟨c, d, e, f⟩, g, i⟩, rfl, ?_⟩
  show e.size ≤ _
  exact Nat.le_trans hs (by decide)
theorem argI {d : DV} (h : HasTy (.int .i64) d) : ∃ n, d = .int .i64 n ∧ -9223372036854775808 ≤ n ∧ n ≤ 9223372036854775807 := by
  unfold HasTy at h
  obtain ⟨n, rfl, w⟩ := h
  refine ⟨n, rfl, ?_⟩
  simp [Lit.wf, IntKind.min, IntKind.max, IntKind.signed, IntKind.bits] at w
  omega
theorem argL {d : DV} (h : HasTy tyL d) : ∃ xs : List V, (d = .list 4 (xs.map V.d) false ∨ (d = .nils ∧ xs = [])) ∧ (∀ x ∈ xs, Sm x) ∧ xs.length ≤ reachBytes := by
  unfold tyL HasTy at h
  rcases h with rfl | ⟨xs, rfl, hb, _, hx⟩
  · exact ⟨[], .inr ⟨rfl, rfl⟩, by simp, by simp⟩
  · have : ∀ (l : List DV), (∀ x ∈ l, HasTy tyV x) → ∃ ys : List V, l = ys.map V.d ∧ ∀ x ∈ ys, Sm x := by
      intro l
      induction l with
      | nil => intro _; exact ⟨[], rfl, by simp⟩
      | cons a l ih =>
        intro h
        obtain ⟨v, rfl, hv⟩ := argV (h a (by simp))
        obtain ⟨ys, rfl, hys⟩ := ih (fun x hx => h x (by simp [hx]))
        refine ⟨v :: ys, rfl, ?_⟩
        intro x hx
        rcases List.mem_cons.1 hx with rfl | hx
        · exact hv
        · exact hys x hx
    obtain ⟨ys, rfl, hys⟩ := this xs (fun x h => (hx x h).1)
    refine ⟨ys, .inl rfl, hys, ?_⟩
    simp at hb
    omega
theorem argF {d : DV} (h : HasTy tyF d) : ∃ xs : List N, (∀ h, vw h 8 d = some (xs.map N.d)) ∧ (d = .list 8 (xs.map N.d) false ∨ (d = .nils ∧ xs = [])) ∧ (∀ x ∈ xs, Sm x.val) ∧ xs.length ≤ reachBytes := by
  unfold tyF HasTy at h
  rcases h with rfl | ⟨xs, rfl, hb, _, hx⟩
  · exact ⟨[], fun _ => rfl, .inr ⟨rfl, rfl⟩, by simp, by simp⟩
  · have : ∀ (l : List DV), (∀ x ∈ l, HasTy tyN x) → ∃ ys : List N, l = ys.map N.d ∧ ∀ x ∈ ys, Sm x.val := by
      intro l
      induction l with
      | nil => intro _; exact ⟨[], rfl, by simp⟩
      | cons a l ih =>
        intro h
        obtain ⟨v, rfl, hv⟩ := argN (h a (by simp))
        obtain ⟨ys, rfl, hys⟩ := ih (fun x hx => h x (by simp [hx]))
        refine ⟨v :: ys, rfl, ?_⟩
        intro x hx
        rcases List.mem_cons.1 hx with rfl | hx
        · exact hv
        · exact hys x hx
    obtain ⟨ys, rfl, hys⟩ := this xs (fun x h => (hx x h).1)
    refine ⟨ys, fun _ => rfl, .inl rfl, hys, ?_⟩
    simp at hb
    omega
def tyB : Ty := .sl 1 1 (.int .u8)
def tyC : Ty := .st [.int .i64, tyL, tyB]
def tyI : Ty := .sl 1 8 (.int .i64)
def tyG : Ty := .st [.int .i64, .int .i64, .int .i64, .int .i64, tyI, .sl 3 56 tyC]
theorem argB {d : DV} (h : HasTy tyB d) : ∃ bs : List Nat, BytesL d bs ∧ BB bs := by
  unfold tyB HasTy at h
  rcases h with rfl | ⟨xs, rfl, hb, _, hx⟩
  · exact ⟨[], .inl ⟨rfl, rfl⟩, fun x hx => by cases hx⟩
  · have : ∀ (l : List DV), (∀ x ∈ l, HasTy (.int .u8) x) → ∃ bs : List Nat, l = bs.map bD ∧ BB bs := by
      intro l
      induction l with
      | nil => intro _; exact ⟨[], rfl, fun x hx => by cases hx⟩
      | cons a l ih =>
        intro h
        have ha := h a (by simp)
        unfold HasTy at ha
        obtain ⟨n, rfl, w⟩ := ha
        simp [Lit.wf, IntKind.min, IntKind.max, IntKind.signed, IntKind.bits] at w
        obtain ⟨bs, rfl, hbs⟩ := ih (fun x hx => h x (by simp [hx]))
        refine ⟨n.toNat :: bs, ?_, ?_⟩
        · have : ((n.toNat : Nat) : Int) = n := by omega
          simp [this]
        · intro x hx
          rcases List.mem_cons.1 hx with rfl | hx
          · omega
          · exact hbs x hx
    obtain ⟨bs, rfl, hbs⟩ := this xs (fun x h => (hx x h).1)
    exact ⟨bs, .inr rfl, hbs⟩
theorem argC {d : DV} (h0 : HasTy tyC d) : ∃ c : RC, d = c.d ∧ c.Raw := by
  unfold tyC HasTy at h0
  obtain ⟨cs, rfl, h0⟩ := h0
  unfold HasTys at h0
  obtain ⟨a, l, rfl, ha, h0⟩ := h0
  unfold HasTys at h0
  obtain ⟨b, l, rfl, hb, h0⟩ := h0
  unfold HasTys at h0
  obtain ⟨c, l, rfl, hc, h0⟩ := h0
  unfold HasTys at h0
  subst h0
  unfold HasTy at ha
  obtain ⟨n, rfl, _⟩ := ha
  obtain ⟨ys, hD, hsm, _⟩ := argL hb
  obtain ⟨bs, hB, hbb⟩ := argB hc
  exact ⟨⟨n, ys, bs, b, c⟩, rfl, ⟨hD, hsm, hB, hbb⟩⟩
theorem argCs {d : DV} (h : HasTy (.sl 3 56 tyC) d) : ∃ cs : List RC, (∀ g, vw g 3 d = some (cs.map RC.d)) ∧ ∀ c ∈ cs, c.Raw := by
  unfold HasTy at h
  rcases h with rfl | ⟨xs, rfl, hb, _, hx⟩
  · exact ⟨[], fun _ => rfl, fun c hc => by cases hc⟩
  · have : ∀ (l : List DV), (∀ x ∈ l, HasTy tyC x) → ∃ cs : List RC, l = cs.map RC.d ∧ ∀ c ∈ cs, c.Raw := by
      intro l
      induction l with
      | nil => intro _; exact ⟨[], rfl, fun c hc => by cases hc⟩
      | cons a l ih =>
        intro h
        obtain ⟨c, rfl, hc⟩ := argC (h a (by simp))
        obtain ⟨cs, rfl, hcs⟩ := ih (fun x hx => h x (by simp [hx]))
        refine ⟨c :: cs, rfl, fun q hq => ?_⟩
        rcases List.mem_cons.1 hq with rfl | hq
        · exact hc
        · exact hcs q hq
    obtain ⟨cs, rfl, hcs⟩ := this xs (fun x h => (hx x h).1)
    exact ⟨cs, fun _ => rfl, hcs⟩
def tyCl : Ty := .st [.str, .int .i64, .bool]
def tyS : Ty := .st [.sl 3 32 tyCl, .int .i64, .int .i64, .int .i64, .int .i64]
theorem argSl {α : Type} {f : α → DV} {sz b : Nat} {t : Ty} (ht : ∀ x, HasTy t x → ∃ y, x = f y) {d : DV} (h : HasTy (.sl sz b t) d) : ∃ ys : List α, d = .list sz (ys.map f) false ∨ (d = .nils ∧ ys = []) := by
  unfold HasTy at h
  rcases h with rfl | ⟨xs, rfl, _, _, hx⟩
  · exact ⟨[], .inr ⟨rfl, rfl⟩⟩
  · have : ∀ (l : List DV), (∀ x ∈ l, HasTy t x) → ∃ ys : List α, l = ys.map f := by
      intro l
      induction l with
      | nil => intro _; exact ⟨[], rfl⟩
      | cons a l ih =>
        intro h
        obtain ⟨y, rfl⟩ := ht a (h _ (by simp))
        obtain ⟨ys, rfl⟩ := ih (fun x hx => h x (by simp [hx]))
        exact ⟨y :: ys, rfl⟩
    obtain ⟨ys, rfl⟩ := this xs (fun x h => (hx x h).1)
    exact ⟨ys, .inl rfl⟩
theorem argCl {d : DV} (h0 : HasTy tyCl d) : ∃ c : Cl, d = c.d := by
  unfold tyCl HasTy at h0
  obtain ⟨cs, rfl, h0⟩ := h0
  unfold HasTys at h0
  obtain ⟨a, l, rfl, ha, h0⟩ := h0
  unfold HasTys at h0
  obtain ⟨b, l, rfl, hb, h0⟩ := h0
  unfold HasTys at h0
  obtain ⟨c, l, rfl, hc, h0⟩ := h0
  unfold HasTys at h0
  subst h0
  unfold HasTy at ha hb hc
  obtain ⟨s, rfl, _⟩ := ha
  obtain ⟨k, rfl, _⟩ := hb
  obtain ⟨t, rfl⟩ := hc
  exact ⟨⟨s, k, t⟩, rfl⟩
theorem argS {d : DV} (h0 : HasTy tyS d) : ∃ (Cd : DV) (s : Sch), d = schD Cd s ∧ (∀ g, vw g 3 Cd = some (s.cols.map Cl.d)) ∧ Cd.one = true := by
  unfold tyS HasTy at h0
  obtain ⟨cs, rfl, h0⟩ := h0
  unfold HasTys at h0
  obtain ⟨a, l, rfl, ha, h0⟩ := h0
  unfold HasTys at h0
  obtain ⟨b, l, rfl, hb, h0⟩ := h0
  unfold HasTys at h0
  obtain ⟨c, l, rfl, hc, h0⟩ := h0
  unfold HasTys at h0
  obtain ⟨d, l, rfl, hd, h0⟩ := h0
  unfold HasTys at h0
  obtain ⟨e, l, rfl, he, h0⟩ := h0
  unfold HasTys at h0
  subst h0
  obtain ⟨cols, hcols⟩ := argSl (f := Cl.d) (fun x hx => argCl hx) ha
  obtain ⟨b, rfl, _⟩ := argI hb
  obtain ⟨c, rfl, _⟩ := argI hc
  obtain ⟨d, rfl, _⟩ := argI hd
  obtain ⟨e, rfl, _⟩ := argI he
  refine ⟨a, ⟨cols, b, c, d, e⟩, rfl, fun g => ?_, ?_⟩
  · rcases hcols with rfl | ⟨rfl, rfl⟩ <;> rfl
  · rcases hcols with rfl | ⟨rfl, rfl⟩ <;> rfl
theorem argNs {d : DV} (h : HasTy tyI d) : ∃ zs : List Int, NumsA d zs := by
  unfold tyI at h
  obtain ⟨zs, hz⟩ := argSl (f := intD) (fun x hx => by
    obtain ⟨n, rfl, _⟩ := argI hx
    exact ⟨n, rfl⟩) h
  rcases hz with rfl | ⟨rfl, rfl⟩
  · exact ⟨zs, .inr rfl⟩
  · exact ⟨[], .inl ⟨rfl, rfl⟩⟩
theorem argG {d : DV} (h0 : HasTy tyG d) : ∃ p1 p2 p3 p4 Of Cs os cs, d = .agg [.int .i64 p1, .int .i64 p2, .int .i64 p3, .int .i64 p4, Of, Cs] ∧ SegN Of Cs os cs := by
  unfold tyG HasTy at h0
  obtain ⟨cs, rfl, h0⟩ := h0
  unfold HasTys at h0
  obtain ⟨a, l, rfl, ha, h0⟩ := h0
  unfold HasTys at h0
  obtain ⟨b, l, rfl, hb, h0⟩ := h0
  unfold HasTys at h0
  obtain ⟨c, l, rfl, hc, h0⟩ := h0
  unfold HasTys at h0
  obtain ⟨d, l, rfl, hd, h0⟩ := h0
  unfold HasTys at h0
  obtain ⟨e, l, rfl, he, h0⟩ := h0
  unfold HasTys at h0
  obtain ⟨f, l, rfl, hf, h0⟩ := h0
  unfold HasTys at h0
  subst h0
  unfold HasTy at ha hb hc hd
  obtain ⟨p1, rfl, _⟩ := ha
  obtain ⟨p2, rfl, _⟩ := hb
  obtain ⟨p3, rfl, _⟩ := hc
  obtain ⟨p4, rfl, _⟩ := hd
  obtain ⟨os, ho⟩ := argNs he
  obtain ⟨cs, hcs, hr⟩ := argCs hf
  exact ⟨p1, p2, p3, p4, e, f, os, cs, rfl, ho, hcs, hr⟩
theorem gDb : Tryz.prog.globalNamed "math/bits.deBruijn64tab" = some 0 := by kernel_rfl
/-- The condition gives the engine's table. -/
theorem tabs_db {W : World} (h : laidMetH Tryz.prog Rows.filterSameRow.laid W) : Tabs B0 W [] := by
  rw [MakeChecks.laidMetH_plain _ _ _ (by kernel_rfl)] at h
  intro p hp
  simp only [tabs, List.mem_singleton] at hp
  subst hp
  exact tab_of_laid (l := deBruijn) (rest := [("unicode/utf8.acceptRanges", Rows.laid_unicode_utf8_acceptRanges), ("unicode/utf8.first", Rows.laid_unicode_utf8_first)]) (t := 155) (e := 5) h gDb (by kernel_rfl) (by kernel_rfl) (by kernel_rfl) (by kernel_rfl) rfl
end Go.Proofs.YtojhkbbnkhfnhaaGreatDoor
