/- Memory that is made: literals of slices, make, append; rows that are frozen. -/
import Derived.Test.YtfgnefnpfgdliaaDoorEngH
import Derived.Deep.AppendSrc
import Derived.Great.BuildSlice
import Derived.Laws.AppendOwn
namespace Go.Proofs.YtfgnefnpfgdliaaDoor
open Go.RowKit
set_option linter.unusedVariables false
set_option linter.unusedSimpArgs false

section
variable {P : Program} {β β' : Bm} {w w' : World} {h h' : Heap}

/-- A new number, at a block that wasn't there. -/
theorem Ext.allocG (hI : Inv β w h) (x : HO) {nb : Nat} (hg : w.grownBy w' none) (hnb : w.heap.size ≤ nb) : Ext β w h (upd β h.length nb) w' (h ++ [x]) where
  os := hg.os
  tape := hg.tape
  output := hg.output
  size := hg.size
  len := by simp
  keep b hb _ := hg.block b hb (by simp)
  old o ho hn := by rw [upd_ne _ _ (by omega : o ≠ h.length)]; exact hn
  new o b hb := by
    by_cases ho : o = h.length
    · subst ho; rw [upd_self] at hb; injection hb with hb; subst hb; exact .inr hnb
    · rw [upd_ne _ _ ho] at hb; exact .inl hb
  obj o b y hb hy := by
    have hlt := hI.lt o b hb
    have ho : o ≠ h.length := by omega
    have hb' : upd β h.length nb o = some b := by rw [upd_ne _ _ ho]; exact hb
    have hy' : (h ++ [x])[o]? = some y := by rw [List.getElem?_append_left hlt.1]; exact hy
    cases y with
    | box t cs => exact ⟨hb', cs, hy'⟩
    | frz e sz g xs => exact ⟨hb', hy'⟩
    | map kt et es => exact ⟨hb', es, hy'⟩
    | row e sz g xs => exact ⟨b, g, xs, hb', .inl hy', Nat.le_refl _, fun _ => ⟨rfl, rfl, fun cur hc => ⟨cur, by rw [hg.block b hlt.2 (by simp)]; exact hc, rfl⟩⟩⟩
theorem Inv.allocG (hI : Inv β w h) (x : HO) {nb : Nat} (hg : w.grownBy w' none) (hnb : w.heap.size ≤ nb) (hn2 : nb < w'.heap.size) (hx : OR (upd β h.length nb) w' (h ++ [x]) nb x) : Inv (upd β h.length nb) w' (h ++ [x]) := by
  refine hI.step (Ext.allocG hI x hg hnb) (fun o b hb => ?_) (fun o o' b hb hb' => ?_) (tot_snoc hI.tot _ _) (fun o b y hb hy => ?_)
  · by_cases ho : o = h.length
    · subst ho; rw [upd_self] at hb; injection hb with hb; subst hb; exact ⟨by simp, hn2⟩
    · rw [upd_ne _ _ ho] at hb
      have := hI.lt o b hb
      have h2 := hg.size
      exact ⟨by simp; omega, by omega⟩
  · by_cases ho : o = h.length
    · subst ho; rw [upd_self] at hb; injection hb with hb; subst hb
      by_cases ho' : o' = h.length
      · exact ho'.symm
      · rw [upd_ne _ _ ho'] at hb'
        have := hI.lt o' _ hb'
        omega
    · rw [upd_ne _ _ ho] at hb
      by_cases ho' : o' = h.length
      · subst ho'; rw [upd_self] at hb'; injection hb' with hb'; subst hb'
        have := hI.lt o _ hb
        omega
      · rw [upd_ne _ _ ho'] at hb'
        exact hI.inj o o' b hb hb'
  · by_cases ho : o = h.length
    · subst ho; rw [upd_self] at hb; injection hb with hb; subst hb
      have : y = x := by simpa using hy.symm
      subst this
      exact .inr hx
    · rw [upd_ne _ _ ho] at hb
      have hlt := hI.lt o b hb
      rw [List.getElem?_append_left hlt.1] at hy
      exact .inl ⟨hb, hy, hg.block b hlt.2 (by simp)⟩
/-- A row goes on, at its block or at a new one, with a greater count. -/
theorem Ext.moveG (hI : Inv β w h) {o b nb e sz g : Nat} {xs ys : List DV} (hg : w.grownBy w' (some b)) (hnb : nb = b ∨ w.heap.size ≤ nb) (hb : β o = some b) (hx : h[o]? = some (.row e sz g xs)) :
    Ext β w h (upd β o nb) w' (h.set o (.row e sz (g + 1) ys)) where
  os := hg.os
  tape := hg.tape
  output := hg.output
  size := hg.size
  len := by simp
  keep k hk ha := hg.block k hk (fun e1 => by
    injection e1 with e1; subst e1
    obtain ⟨e, sz, g, xs, h1⟩ := ha o hb
    rw [hx] at h1
    cases h1)
  old k _ hn := by rw [upd_ne _ _ (fun e => by subst e; rw [hb] at hn; cases hn)]; exact hn
  new k c hk := by
    by_cases ho : k = o
    · subst ho; rw [upd_self] at hk; injection hk with hk; subst hk
      rcases hnb with rfl | hnb
      · exact .inl hb
      · exact .inr hnb
    · rw [upd_ne _ _ ho] at hk; exact .inl hk
  obj o' b' y hb' hy := by
    by_cases ho : o' = o
    · subst ho
      rw [hb] at hb'; injection hb' with hb'; subst hb'
      rw [hx] at hy; injection hy with hy; subst hy
      exact ⟨nb, g + 1, ys, upd_self _ _ _, .inl (List.getElem?_set_self (hI.lt _ _ hb).1), by omega, fun hg => by omega⟩
    · have hlt := hI.lt o' b' hb'
      have hne : b' ≠ b := fun e1 => by subst e1; exact ho (hI.inj o' o b' hb' hb)
      have hy' : (h.set o (.row e sz (g + 1) ys))[o']? = some y := by rw [List.getElem?_set_ne (Ne.symm ho)]; exact hy
      have hb2 : upd β o nb o' = some b' := by rw [upd_ne _ _ ho]; exact hb'
      cases y with
      | box t cs => exact ⟨hb2, cs, hy'⟩
      | frz e sz g xs => exact ⟨hb2, hy'⟩
      | map kt et es => exact ⟨hb2, es, hy'⟩
      | row e sz g xs => exact ⟨b', g, xs, hb2, .inl hy', Nat.le_refl _, fun _ => ⟨rfl, rfl, fun cur hc => ⟨cur, by rw [hg.block b' hlt.2 (by simpa using hne)]; exact hc, rfl⟩⟩⟩
theorem Inv.moveG (hI : Inv β w h) {o b nb e sz g : Nat} {xs ys : List DV} (hg : w.grownBy w' (some b)) (hnb : nb = b ∨ w.heap.size ≤ nb) (hn2 : nb < w'.heap.size) (hb : β o = some b) (hx : h[o]? = some (.row e sz g xs))
    (hr : RowAt (upd β o nb) w' (h.set o (.row e sz (g + 1) ys)) nb e sz ys) : Inv (upd β o nb) w' (h.set o (.row e sz (g + 1) ys)) := by
  refine hI.step (Ext.moveG hI hg hnb hb hx) (fun k c hk => ?_) (fun k k' c hk hk' => ?_) (tot_upd hI.tot _ _ _) (fun k c y hk hy => ?_)
  · by_cases ho : k = o
    · subst ho; rw [upd_self] at hk; injection hk with hk; subst hk
      exact ⟨by simpa using (hI.lt k b hb).1, hn2⟩
    · rw [upd_ne _ _ ho] at hk
      have := hI.lt k c hk
      have h2 := hg.size
      exact ⟨by simpa using this.1, by omega⟩
  · by_cases ho : k = o
    · subst ho; rw [upd_self] at hk; injection hk with hk; subst hk
      by_cases ho' : k' = k
      · exact ho'.symm
      · rw [upd_ne _ _ ho'] at hk'
        have h3 := hI.lt k' _ hk'
        rcases hnb with rfl | hnb
        · exact absurd (hI.inj k' k nb hk' hb) ho'
        · omega
    · rw [upd_ne _ _ ho] at hk
      by_cases ho' : k' = o
      · subst ho'; rw [upd_self] at hk'; injection hk' with hk'; subst hk'
        have h3 := hI.lt k _ hk
        rcases hnb with rfl | hnb
        · exact absurd (hI.inj k k' nb hk hb) ho
        · omega
      · rw [upd_ne _ _ ho'] at hk'
        exact hI.inj k k' c hk hk'
  · by_cases ho : k = o
    · subst ho; rw [upd_self] at hk; injection hk with hk; subst hk
      rw [List.getElem?_set_self (hI.lt k b hb).1] at hy
      injection hy with hy; subst hy
      exact .inr hr
    · rw [upd_ne _ _ ho] at hk
      have hlt := hI.lt k c hk
      have hne : c ≠ b := fun e1 => by subst e1; exact ho (hI.inj k o c hk hb)
      rw [List.getElem?_set_ne (Ne.symm ho)] at hy
      exact .inl ⟨hk, hy, hg.block c hlt.2 (by simpa using hne)⟩

/-! ### Rows that are frozen -/
theorem nr_sub {xs : List DV} {lo n : Nat} {p : DV → Prop} (h : ∀ x ∈ xs, p x) : ∀ x ∈ (xs.drop lo).take n, p x := fun x hx => h x (List.mem_of_mem_drop (List.mem_of_mem_take hx))
theorem frz_list (hI : Inv β w h) {o g lo n b e sz cap : Nat} {c : Bool} {a : Addr} {xs : List DV} (hb : β o = some b) (hx : h[o]? = some (.frz e sz g xs)) (hc : n ≤ cap) (hcc : c = true → cap = n) (hl : lo + n ≤ xs.length) (ha : 0 < n → a = ⟨b, lo * sz, none⟩) (hnr : ∀ x ∈ xs, Nr x) :
    RV β w h (.list sz ((xs.drop lo).take n) c) (.slice (some a) n cap) := by
  obtain ⟨cur, C, h1, h2, h3, h4, h5, h6, h7⟩ := hI.ob _ _ _ hb hx
  have hw : ∀ x ∈ xs, x.cells.length = sz := fun x hx => (h6 x hx).1
  refine .list (vs := ((cur.toList.take (xs.length * sz)).drop (lo * sz)).take (n * sz)) (by rw [List.length_take, List.length_drop]; omega) hc hcc (nr_sub hnr) (nr_sub h6) ?_ ?_
  · rw [flat_take n (fun x hx => hw x (List.mem_of_mem_drop hx)), flat_drop lo hw]
    exact (h7.drop _).take _
  · intro j v hj
    have hn : 0 < n := by
      rcases Nat.eq_zero_or_pos n with h0 | h0
      · subst h0; simp at hj
      · exact h0
    rw [ha hn]
    refine ⟨fun o' ho' => ?_, ?_⟩
    · have := hI.inj o' o b ho' hb
      subst this
      exact ⟨_, _, _, _, hx⟩
    · rw [add_p, cell_of_row w b _ cur e (0, 0) h1, ← Array.getElem?_toList]
      rw [List.getElem?_take] at hj
      split at hj
      · rw [List.getElem?_drop, List.getElem?_take] at hj
        split at hj
        · exact hj
        · cases hj
      · cases hj
theorem good_ro (hI : Inv β w h) {d d' : DV} {v : Value} (hr : RV β w h d v) (hd : roOf h d = some (d', h')) : Ext β w h β w h' ∧ Inv β w h' ∧ RV β w h' d' v := by
  unfold roOf at hd
  split at hd
  · cases hr with
    | row hb hc hcc ho hg hs =>
    rename_i o g lo n c a cap b e sz g' xs
    rcases ho with ho | ho
    · rw [ho] at hd
      simp only at hd
      split at hd
      · rename_i hq
        obtain ⟨rfl, hl, hnr⟩ := hq
        injection hd with hd; injection hd with h1 h2; subst h1; subst h2
        have he := Ext.freeze hI hb ho
        have hi := Inv.freeze hI hb ho
        refine ⟨he, hi, ?_⟩
        have hx : (h.set o (.frz e sz g' xs))[o]? = some (.frz e sz g' xs) := List.getElem?_set_self (hI.lt _ _ hb).1
        exact frz_list hi hb hx hc hcc hl (hs rfl).2.1 hnr
      · cases hd
    · rw [ho] at hd
      simp only at hd
      split at hd
      · rename_i hq
        obtain ⟨rfl, hl, hnr⟩ := hq
        injection hd with hd; injection hd with h1 h2; subst h1; subst h2
        exact ⟨Ext.refl _ _ _, hI, frz_list hI hb ho hc hcc hl (hs rfl).2.1 hnr⟩
      · cases hd
  · injection hd with hd; injection hd with h1 h2; subst h1; subst h2
    exact ⟨Ext.refl _ _ _, hI, hr⟩
theorem good_roL : ∀ {ds ds' : List DV} {vs : List Value} {h h' : Heap}, Inv β w h → RVs β w h ds vs → roL ds h = some (ds', h') → Ext β w h β w h' ∧ Inv β w h' ∧ RVs β w h' ds' vs
  | [], ds', vs, h, h', hI, hr, hd => by
    simp [roL] at hd
    obtain ⟨rfl, rfl⟩ := hd
    exact ⟨Ext.refl _ _ _, hI, hr⟩
  | d :: l, ds', vs, h, h', hI, hr, hd => by
    unfold roL at hd
    cases hr with
    | cons h1 h2 =>
    split at hd
    · rename_i d1 k1 hd1
      split at hd
      · rename_i l1 k2 hd2
        injection hd with hd; injection hd with e1 e2; subst e1; subst e2
        obtain ⟨a1, a2, a3⟩ := good_ro hI h1 hd1
        obtain ⟨b1, b2, b3⟩ := good_roL a2 (RVs.ext a1 h2) hd2
        exact ⟨Ext.trans hI a1 b1, b2, .cons (RV.ext b1 a3) b3⟩
      · cases hd
    · cases hd
theorem good_elt (hI : Inv β w h) {d d' : DV} {v : Value} (hr : RV β w h d v) (hd : eltOf h d = some (d', h')) : Ext β w h β w h' ∧ Inv β w h' ∧ RV β w h' d' v := by
  unfold eltOf at hd
  split at hd
  · cases hr with
    | agg hr =>
    split at hd
    · rename_i cs' k hk
      injection hd with hd; injection hd with e1 e2; subst e1; subst e2
      obtain ⟨a1, a2, a3⟩ := good_roL hI hr hk
      exact ⟨a1, a2, .agg a3⟩
    · cases hd
  · exact good_ro hI hr hd
theorem good_eltL : ∀ {ds ds' : List DV} {vs : List Value} {h h' : Heap}, Inv β w h → RVs β w h ds vs → eltL ds h = some (ds', h') → Ext β w h β w h' ∧ Inv β w h' ∧ RVs β w h' ds' vs
  | [], ds', vs, h, h', hI, hr, hd => by
    simp [eltL] at hd
    obtain ⟨rfl, rfl⟩ := hd
    exact ⟨Ext.refl _ _ _, hI, hr⟩
  | d :: l, ds', vs, h, h', hI, hr, hd => by
    unfold eltL at hd
    cases hr with
    | cons h1 h2 =>
    split at hd
    · rename_i d1 k1 hd1
      split at hd
      · rename_i l1 k2 hd2
        injection hd with hd; injection hd with e1 e2; subst e1; subst e2
        obtain ⟨a1, a2, a3⟩ := good_elt hI h1 hd1
        obtain ⟨b1, b2, b3⟩ := good_eltL a2 (RVs.ext a1 h2) hd2
        exact ⟨Ext.trans hI a1 b1, b2, .cons (RV.ext b1 a3) b3⟩
      · cases hd
    · cases hd
end
end Go.Proofs.YtfgnefnpfgdliaaDoor
