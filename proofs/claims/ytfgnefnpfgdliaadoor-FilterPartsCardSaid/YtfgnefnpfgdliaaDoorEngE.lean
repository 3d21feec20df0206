/- Reading: lists of related values, constants, operands, the cells of a slice, loads. -/
import Derived.Test.YtfgnefnpfgdliaaDoorEngC
import Derived.Test.YtfgnefnpfgdliaaDoorEngD
namespace Go.Proofs.YtfgnefnpfgdliaaDoor
open Go.RowKit
set_option linter.unusedVariables false
set_option linter.unusedSimpArgs false

section
variable {β β' : Bm} {w w' : World} {h h' : Heap}

theorem RVs.len : ∀ {ds vs}, RVs β w h ds vs → ds.length = vs.length
  | _, _, .nil => rfl
  | _, _, .cons _ hs => by simp [RVs.len hs]
theorem RVs.get : ∀ {ds vs} (hr : RVs β w h ds vs) {i : Nat} {d : DV}, ds[i]? = some d → ∃ v, vs[i]? = some v ∧ RV β w h d v
  | _, _, .nil, i, d, hd => by simp at hd
  | _, _, .cons (v := v) h1 h2, i, d, hd => by
    cases i with
    | zero => simp at hd; subst hd; exact ⟨v, by simp, h1⟩
    | succ i => simp at hd; obtain ⟨u, hu, hr⟩ := RVs.get h2 hd; exact ⟨u, by simpa using hu, hr⟩
theorem RVs.get' {ds vs} (hr : RVs β w h ds vs) {i : Nat} {v : Value} (hv : vs[i]? = some v) : ∃ d, ds[i]? = some d ∧ RV β w h d v := by
  have hl := hr.len
  have hi : i < vs.length := (List.getElem?_eq_some_iff.1 hv).1
  obtain ⟨u, hu, hr'⟩ := hr.get (i := i) (d := ds[i]'(by omega)) (List.getElem?_eq_getElem _)
  rw [hv] at hu; injection hu with hu; subst hu
  exact ⟨_, List.getElem?_eq_getElem (by omega), hr'⟩
theorem RVs.append : ∀ {ds vs es us}, RVs β w h ds vs → RVs β w h es us → RVs β w h (ds ++ es) (vs ++ us)
  | _, _, _, _, .nil, h2 => h2
  | _, _, _, _, .cons h1 hs, h2 => .cons h1 (RVs.append hs h2)
theorem RVs.take : ∀ {ds vs} (n : Nat), RVs β w h ds vs → RVs β w h (ds.take n) (vs.take n)
  | _, _, 0, _ => by simp; exact .nil
  | _, _, n + 1, .nil => by simp; exact .nil
  | _, _, n + 1, .cons h1 hs => by simp; exact .cons h1 (RVs.take n hs)
theorem RVs.drop : ∀ {ds vs} (n : Nat), RVs β w h ds vs → RVs β w h (ds.drop n) (vs.drop n)
  | _, _, 0, hr => by simpa using hr
  | _, _, n + 1, .nil => by simp; exact .nil
  | _, _, n + 1, .cons h1 hs => by simp; exact RVs.drop n hs
theorem RVs.mem {ds vs} (hr : RVs β w h ds vs) {v : Value} (hv : v ∈ vs) : ∃ d ∈ ds, RV β w h d v := by
  obtain ⟨i, hi⟩ := List.mem_iff_getElem?.1 hv
  obtain ⟨d, hd, hr⟩ := hr.get' hi
  exact ⟨d, List.mem_of_getElem? hd, hr⟩

theorem RV.cells {d : DV} {v : Value} (hr : RV β w h d v) (hu : d.isU = false) : RVs β w h d.cells v.cells.toList := by
  cases hr <;> first
    | (simp only [DV.cells, Value.cells]; assumption)
    | (simp [DV.isU] at hu; done)
    | (refine .cons ?_ .nil; constructor <;> assumption)
theorem RV.one {d : DV} {v : Value} (hr : RV β w h d v) (ho : d.one = true) : v.oneCell' = true := by
  cases hr <;> first | rfl | (simp [DV.one] at ho; done)

theorem vd0_ok {v : Value} {d : DV} (hv : vd0 v = some d) : RV β w h d v ∧ Nr d ∧ d.isU = false := by
  unfold vd0 at hv
  split at hv <;> first
    | (injection hv with hv; subst hv; exact ⟨.func .nil .nil, .func _, rfl⟩)
    | (injection hv with hv; subst hv; exact ⟨.ifc (.int _ _), .ifc _ _ _, rfl⟩)
    | (injection hv with hv; subst hv; exact ⟨by constructor, by constructor, rfl⟩)
    | cases hv
theorem vdL_ok : ∀ {vs : List Value} {ds : List DV}, vdL vs = some ds → RVs β w h ds vs ∧ (∀ d ∈ ds, Nr d ∧ d.isU = false ∧ d.one = true)
  | [], ds, hv => by simp [vdL] at hv; subst hv; exact ⟨.nil, by simp⟩
  | v :: l, ds, hv => by
    unfold vdL at hv
    split at hv
    · rename_i d hd
      split at hv
      · rename_i ds' hds
        injection hv with hv; subst hv
        obtain ⟨h1, h2⟩ := vdL_ok hds
        obtain ⟨h3, h4, h5⟩ := vd0_ok (β := β) (w := w) (h := h) hd
        refine ⟨.cons h3 h1, fun x hx => ?_⟩
        rcases List.mem_cons.1 hx with rfl | hx
        · refine ⟨h4, h5, ?_⟩
          unfold vd0 at hd
          split at hd <;> first | (injection hd with hd; subst hd; rfl) | cases hd
        · exact h2 x hx
      · cases hv
    · cases hv
theorem vd_ok {v : Value} {d : DV} (hv : vd v = some d) : RV β w h d v ∧ Nr d ∧ d.isU = false ∧ (∀ c ∈ d.cells, c.one = true) := by
  unfold vd at hv
  split at hv
  · rename_i cs
    split at hv
    · rename_i ds hds
      injection hv with hv; subst hv
      obtain ⟨h1, h2⟩ := vdL_ok (β := β) (w := w) (h := h) hds
      exact ⟨.agg (vs := cs.toList) h1, .agg (fun x hx => (h2 x hx).1), rfl, fun c hc => (h2 c hc).2.2⟩
    · cases hv
  · obtain ⟨h1, h2, h3⟩ := vd0_ok (β := β) (w := w) (h := h) hv
    refine ⟨h1, h2, h3, ?_⟩
    unfold vd0 at hv
    split at hv <;> first | (injection hv with hv; subst hv; simp [DV.cells, DV.one]) | cases hv

/-- The slots hold what the environment says. -/
def ER (β : Bm) (w : World) (h : Heap) (e : Env) (a : Act) : Prop := ∀ s, RV β w h (lk e s) (a.tmps.getD s undef)
theorem ER.ext (he : Ext β w h β' w' h') {e : Env} {a : Act} (hr : ER β w h e a) : ER β' w' h' e a := fun s => RV.ext he (hr s)
theorem cvO_ok {e : Env} {a : Act} (hr : ER β w h e a) {x : Operand} {o : Od} (hx : cvO x = some o) : RV β w h (o.v e) (a.eval x) := by
  unfold cvO at hx
  split at hx
  · injection hx with hx; subst hx; exact hr _
  · split at hx
    · rename_i d hd; injection hx with hx; subst hx; exact (vd_ok hd).1
    · cases hx
  · injection hx with hx; subst hx; exact .func .nil .nil
  · cases hx
theorem cvG_ok (hI : Inv β w h) {e : Env} {a : Act} (hr : ER β w h e a) {x : Operand} {o : Od} (hx : cvG x = some o) : RV β w h (o.v e) (a.eval x) := by
  unfold cvG at hx
  split at hx
  · rename_i g
    split at hx
    · rename_i p hp
      injection hx with hx; subst hx
      have h1 := List.mem_of_find?_eq_some hp
      have h2 := List.find?_some hp
      have h3 : p.1 = g := by simpa using h2
      subst h3
      have h4 : RV β w h (.elem (.list p.2.length [.agg p.2] true) p.2.length 0 0) (.pointer (some (Addr.add ⟨p.1, 0, none⟩ (0 * p.2.length + 0)))) := .elem (hI.tab p h1).1 (by omega)
      rw [show (Addr.add ⟨p.1, 0, none⟩ (0 * p.2.length + 0)) = (⟨p.1, 0, none⟩ : Addr) by simp [Addr.add]] at h4
      exact h4
    · cases hx
  · exact cvO_ok hr hx
theorem cvL_ok {e : Env} {a : Act} (hr : ER β w h e a) : ∀ {xs : List Operand} {os : List Od}, cvL xs = some os → RVs β w h (os.map (Od.v e)) (xs.map a.eval)
  | [], os, hx => by simp [cvL] at hx; subst hx; exact .nil
  | x :: l, os, hx => by
    unfold cvL at hx
    split at hx
    · rename_i o ho
      split at hx
      · rename_i os' hos
        injection hx with hx; subst hx
        exact .cons (cvO_ok hr ho) (cvL_ok hr hos)
      · cases hx
    · cases hx
theorem cvOpt_ok {e : Env} {a : Act} (hr : ER β w h e a) {x : Option Operand} {o : Option Od} (hx : cvOpt x = some o) :
    (x = none ∧ o = none) ∨ ∃ y z, x = some y ∧ o = some z ∧ RV β w h (z.v e) (a.eval y) := by
  unfold cvOpt at hx
  split at hx
  · injection hx with hx; subst hx; exact .inl ⟨rfl, rfl⟩
  · rename_i y
    split at hx
    · rename_i z hz; injection hx with hx; subst hx; exact .inr ⟨y, z, rfl, rfl, cvO_ok hr hz⟩
    · cases hx

/-! ### Elements and their cells -/
theorem flat_length {sz : Nat} : ∀ {xs : List DV}, (∀ x ∈ xs, x.cells.length = sz) → (flat xs).length = xs.length * sz
  | [], _ => by simp [flat]
  | x :: l, hw => by
    have h1 := flat_length (xs := l) (fun y hy => hw y (by simp [hy]))
    have h2 := hw x (by simp)
    unfold flat at h1 ⊢
    rw [List.flatMap_cons, List.length_append, h1, h2, List.length_cons, Nat.succ_mul, Nat.add_comm]
theorem flat_get {sz : Nat} : ∀ {xs : List DV} (i j : Nat) {x : DV}, (∀ x ∈ xs, x.cells.length = sz) → xs[i]? = some x → j < sz → (flat xs)[i * sz + j]? = x.cells[j]?
  | [], i, j, x, _, hx, _ => by simp at hx
  | y :: l, i, j, x, hw, hx, hj => by
    have hy := hw y (by simp)
    unfold flat
    rw [List.flatMap_cons]
    cases i with
    | zero =>
      simp at hx; subst hx
      rw [Nat.zero_mul, Nat.zero_add, List.getElem?_append_left (by omega)]
    | succ i =>
      have h1 := flat_get (xs := l) i j (fun z hz => hw z (by simp [hz])) (by simpa using hx) hj
      unfold flat at h1
      rw [List.getElem?_append_right (by rw [hy, Nat.succ_mul]; omega), hy]
      rw [show (i + 1) * sz + j - sz = i * sz + j by rw [Nat.succ_mul]; omega]
      exact h1
theorem flat_append (xs ys : List DV) : flat (xs ++ ys) = flat xs ++ flat ys := by simp [flat]
theorem flat_take {sz : Nat} (n : Nat) {xs : List DV} (hw : ∀ x ∈ xs, x.cells.length = sz) : flat (xs.take n) = (flat xs).take (n * sz) := by
  rcases Nat.lt_or_ge xs.length n with hn | hn
  · rw [List.take_of_length_le (by omega), List.take_of_length_le]
    rw [flat_length hw]; exact Nat.mul_le_mul_right _ (by omega)
  · have h1 : flat xs = flat (xs.take n) ++ flat (xs.drop n) := by rw [← flat_append, List.take_append_drop]
    have h2 := flat_length (sz := sz) (xs := xs.take n) (fun x hx => hw x (List.mem_of_mem_take hx))
    rw [List.length_take, Nat.min_eq_left hn] at h2
    rw [h1, ← h2, List.take_left]
theorem flat_drop {sz : Nat} (n : Nat) {xs : List DV} (hw : ∀ x ∈ xs, x.cells.length = sz) : flat (xs.drop n) = (flat xs).drop (n * sz) := by
  rcases Nat.lt_or_ge xs.length n with hn | hn
  · rw [List.drop_eq_nil_of_le (by omega), List.drop_eq_nil_of_le]
    · rfl
    · rw [flat_length hw]; exact Nat.mul_le_mul_right _ (by omega)
  · have h1 : flat xs = flat (xs.take n) ++ flat (xs.drop n) := by rw [← flat_append, List.take_append_drop]
    have h2 := flat_length (sz := sz) (xs := xs.take n) (fun x hx => hw x (List.mem_of_mem_take hx))
    rw [List.length_take, Nat.min_eq_left hn] at h2
    rw [h1, ← h2, List.drop_left]

/-- What a slice's elements say of memory. -/
theorem vw_cells (hI : Inv β w h) {d : DV} {sz : Nat} {xs : List DV} {A : Option Addr} {n cap : Nat} (hr : RV β w h d (.slice A n cap)) (hv : vw h sz d = some xs) :
    n = xs.length ∧ (∀ x ∈ xs, Wc sz x) ∧ (xs = [] ∨ ∃ a vs, A = some a ∧ RVs β w h (flat xs) vs ∧ ∀ j v, vs[j]? = some v → w.cell? (a.add j) = some v) := by
  cases hr with
  | nils => simp [vw] at hv; subst hv; exact ⟨rfl, by simp, .inl rfl⟩
  | list hn hc hcc hnr hw hr ha =>
    simp only [vw] at hv
    split at hv
    · rename_i hs; injection hv with hv; subst hv; subst hs
      exact ⟨hn, hw, .inr ⟨_, _, rfl, hr, fun j v hj => (ha j v hj).2⟩⟩
    · cases hv
  | row hb hc hcc ho hg hs =>
    rename_i o g lo c a b e sz' g' xs'
    have main : ∀ (hR : RowAt β w h b e sz' xs') (hq : sz' = sz ∧ g' = g ∧ lo + n ≤ xs'.length), n = ((xs'.drop lo).take n).length ∧ (∀ x ∈ (xs'.drop lo).take n, Wc sz x) ∧
        ((xs'.drop lo).take n = [] ∨ ∃ a0 vs, some a = some a0 ∧ RVs β w h (flat ((xs'.drop lo).take n)) vs ∧ ∀ j v, vs[j]? = some v → w.cell? (a0.add j) = some v) := by
      intro hR hq
      obtain ⟨rfl, rfl, hl⟩ := hq
      obtain ⟨cur, C, h1, h2, h3, h4, h5, h6, h7⟩ := hR
      obtain ⟨k1, k2, k3⟩ := hs rfl
      have hw : ∀ x ∈ xs', x.cells.length = sz' := fun x hx => (h6 x hx).1
      refine ⟨by rw [List.length_take, List.length_drop]; omega, fun x hx => h6 x (List.mem_of_mem_drop (List.mem_of_mem_take hx)), ?_⟩
      rcases Nat.eq_zero_or_pos n with hn0 | hn0
      · subst hn0; exact .inl (by simp)
      · refine .inr ⟨a, ((cur.toList.take (xs'.length * sz')).drop (lo * sz')).take (n * sz'), rfl, ?_, ?_⟩
        · rw [flat_take n (fun x hx => hw x (List.mem_of_mem_drop hx)), flat_drop lo hw]
          exact (h7.drop _).take _
        · intro j v hj
          rw [k2 hn0, add_p, cell_of_row w b _ cur e (0, 0) h1, ← Array.getElem?_toList]
          rw [List.getElem?_take] at hj
          split at hj
          · rw [List.getElem?_drop, List.getElem?_take] at hj
            split at hj
            · exact hj
            · cases hj
          · cases hj
    simp only [vw] at hv
    rcases ho with ho | ho <;> rw [ho] at hv <;> simp only at hv <;> split at hv
    · rename_i hq; injection hv with hv; subst hv; exact main (hI.ob _ _ _ hb ho) hq
    · cases hv
    · rename_i hq; injection hv with hv; subst hv; exact main (hI.ob _ _ _ hb ho) hq
    · cases hv
  | undef => simp [vw] at hv
theorem vw_slice {d : DV} {sz : Nat} {xs : List DV} {v : Value} (hr : RV β w h d v) (hv : vw h sz d = some xs) : ∃ A n cap, v = .slice A n cap := by
  cases hr <;> first | (simp [vw] at hv; done) | exact ⟨_, _, _, rfl⟩
end
end Go.Proofs.YtfgnefnpfgdliaaDoor
