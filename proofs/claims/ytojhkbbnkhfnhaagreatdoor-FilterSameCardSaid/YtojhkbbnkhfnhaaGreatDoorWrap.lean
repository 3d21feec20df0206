/- A number that fits is not wrapped. The relation lives on where memory has only grown; one of the new blocks may be given a number. -/
import Derived.Test.YtojhkbbnkhfnhaaGreatDoorStep
import Derived.Test.YtojhkbbnkhfnhaaGreatDoorEngL
import Derived.Test.YtojhkbbnkhfnhaaGreatDoorFrameA
namespace Go.Proofs.YtojhkbbnkhfnhaaGreatDoor
theorem wrap64 (n : Int) (h1 : -9223372036854775808 ≤ n) (h2 : n ≤ 9223372036854775807) : IntKind.i64.wrap n = n := by
  have e : IntKind.i64.wrap n = if n % 18446744073709551616 ≥ 9223372036854775808 then n % 18446744073709551616 - 18446744073709551616 else n % 18446744073709551616 := by
    simp [IntKind.wrap, IntKind.bits, IntKind.signed]
  rw [e]
  split <;> omega
end Go.Proofs.YtojhkbbnkhfnhaaGreatDoor
namespace Go.Proofs.YtojhkbbnkhfnhaaGreatDoor
open Go.RowKit
set_option linter.unusedVariables false
set_option linter.unusedSimpArgs false
section
variable {β : Bm} {w w' : World} {h : ZD}
theorem Ext.grow (hI : Inv β w h) (hs : Below w.heap.size w w') : Ext β w h β w' h where
  os := hs.os
  tape := hs.tape
  output := hs.output
  size := hs.size
  len := Nat.le_refl _
  keep b hb _ := hs.block b hb
  old _ _ hn := hn
  new o b hb := .inl hb
  obj o b y hb hy := by
    have hlt := hI.lt o b hb
    cases y with
    | box t cs => exact ⟨hb, cs, hy⟩
    | frz e sz g xs => exact ⟨hb, hy⟩
    | map kt et es => exact ⟨hb, es, hy⟩
    | row e sz g xs => exact ⟨b, g, xs, hb, .inl hy, Nat.le_refl _, fun _ => ⟨rfl, rfl, fun cur hc => ⟨cur, by rw [hs.block _ hlt.2]; exact hc, rfl⟩⟩⟩
theorem Inv.grow (hI : Inv β w h) (hs : Below w.heap.size w w') : Inv β w' h :=
  hI.step (Ext.grow hI hs) (fun o b hb => ⟨(hI.lt o b hb).1, Nat.lt_of_lt_of_le (hI.lt o b hb).2 hs.size⟩) hI.inj hI.tot
    (fun o b x hb hx => .inl ⟨hb, hx, hs.block _ (hI.lt o b hb).2⟩)
theorem Ext.grow1 (hI : Inv β w h) (hs : Below w.heap.size w w') {n : Nat} (hn : w.heap.size ≤ n) (x : HO) : Ext β w h (upd β h.length n) w' (h ++ [x]) where
  os := hs.os
  tape := hs.tape
  output := hs.output
  size := hs.size
  len := by simp
  keep b hb _ := hs.block b hb
  old o ho hn := by rw [Yp _ _ (by omega : o ≠ h.length)]; exact hn
  new o b hb := by
    by_cases ho : o = h.length
    · subst ho; rw [Yk] at hb; injection hb with hb; subst hb; exact .inr hn
    · rw [Yp _ _ ho] at hb; exact .inl hb
  obj o b y hb hy := by
    have hlt := hI.lt o b hb
    have ho : o ≠ h.length := by omega
    have hb' : upd β h.length n o = some b := by rw [Yp _ _ ho]; exact hb
    have hy' : (h ++ [x])[o]? = some y := by rw [List.getElem?_append_left hlt.1]; exact hy
    cases y with
    | box t cs => exact ⟨hb', cs, hy'⟩
    | frz e sz g xs => exact ⟨hb', hy'⟩
    | map kt et es => exact ⟨hb', es, hy'⟩
    | row e sz g xs => exact ⟨b, g, xs, hb', .inl hy', Nat.le_refl _, fun _ => ⟨rfl, rfl, fun cur hc => ⟨cur, by rw [hs.block _ hlt.2]; exact hc, rfl⟩⟩⟩
theorem Inv.grow1 (hI : Inv β w h) (hs : Below w.heap.size w w') {n : Nat} (hn : w.heap.size ≤ n) (hn' : n < w'.heap.size) (x : HO) (hx : OR (upd β h.length n) w' (h ++ [x]) n x) : Inv (upd β h.length n) w' (h ++ [x]) := by
  refine hI.step (Ext.grow1 hI hs hn x) (fun o b hb => ?_) (fun o o' b hb hb' => ?_) (tot_snoc hI.tot _ _) (fun o b y hb hy => ?_)
  · by_cases ho : o = h.length
    · subst ho; rw [Yk] at hb; injection hb with hb; subst hb; exact ⟨by simp, hn'⟩
    · rw [Yp _ _ ho] at hb
      have := hI.lt o b hb
      exact ⟨by simp; omega, by omega⟩
  · by_cases ho : o = h.length
    · subst ho; rw [Yk] at hb; injection hb with hb; subst hb
      by_cases ho' : o' = h.length
      · exact ho'.symm
      · rw [Yp _ _ ho'] at hb'
        have := hI.lt o' _ hb'
        omega
    · rw [Yp _ _ ho] at hb
      by_cases ho' : o' = h.length
      · subst ho'; rw [Yk] at hb'; injection hb' with hb'; subst hb'
        have := hI.lt o _ hb
        omega
      · rw [Yp _ _ ho'] at hb'
        exact hI.inj o o' b hb hb'
  · by_cases ho : o = h.length
    · subst ho; rw [Yk] at hb; injection hb with hb; subst hb
      have : y = x := by simpa using hy.symm
      subst this
      exact .inr hx
    · rw [Yp _ _ ho] at hb
      have hlt := hI.lt o b hb
      rw [List.getElem?_append_left hlt.1] at hy
      exact .inl ⟨hb, hy, hs.block _ hlt.2⟩
end
/-- Data that lead nowhere say the same in any relation. -/
theorem ints_b0 {β : Bm} {w : World} {h : ZD} {k : IntKind} : ∀ {l : List Int} {vs : List Value}, RVs β w h (l.map (.int k)) vs → vs = l.map (Value.int k)
  | [], _, .nil => rfl
  | i :: l, _, .cons hd hs => by
    cases hd
    rw [ints_b0 hs]; rfl
theorem ints_rvs (β : Bm) (w : World) (h : ZD) (k : IntKind) : ∀ (l : List Int), RVs β w h (l.map (.int k)) (l.map (Value.int k))
  | [] => .nil
  | i :: l => .cons (.int k i) (ints_rvs β w h k l)
/-- Tables of numbers lie where they lay. -/
theorem tabs_b0 {β : Bm} {w w' : World} {h : ZD} (ht : Tabs β w h) (hk : ∀ p ∈ tabs, ∃ k l, p.2 = List.map (DV.int k) l) (hs : Below w.heap.size w w') : Tabs B0 w' [] := by
  intro p hp
  obtain ⟨h1, h2⟩ := ht p hp
  refine ⟨?_, h2⟩
  obtain ⟨k, l, hl⟩ := hk p hp
  cases h1 with
  | list hn hc hcc hnr hw hr ha =>
    rename_i vs
    have hf : flat [DV.agg p.2] = l.map (DV.int k) := by simp [flat, DV.cells, hl]
    rw [hf] at hr
    have hv := ints_b0 hr
    subst hv
    refine .list hn hc hcc hnr hw (by rw [hf]; exact ints_rvs _ _ _ _ _) ?_
    intro j v hv
    obtain ⟨a1, a2⟩ := ha j v hv
    refine ⟨fun o ho => (by cases ho), ?_⟩
    have hlt := World.block_lt_of_cell? w _ a2
    rw [World.cell?_of_block (w := w) (hs.block _ hlt)]
    exact a2
end Go.Proofs.YtojhkbbnkhfnhaaGreatDoor
