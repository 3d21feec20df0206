/- How the relation goes on over a step: nothing written, a new block, a block written, a row that is frozen. -/
import Derived.Test.YtfgnefnpfgdliaaDoorEngB
namespace Go.Proofs.YtfgnefnpfgdliaaDoor
open Go.RowKit
set_option linter.unusedVariables false
set_option linter.unusedSimpArgs false

def upd (β : Bm) (o b : Nat) : Bm := fun k => if k = o then some b else β k
theorem upd_self (β : Bm) (o b : Nat) : upd β o b o = some b := by simp [upd]
theorem upd_ne (β : Bm) {o k : Nat} (b : Nat) (h : k ≠ o) : upd β o b k = β k := by simp [upd, h]

section
variable {β β' : Bm} {w w' : World} {h h' : Heap}

theorem RowAt.ext0 (he : Ext0 β w h β' w' h') {b e sz : Nat} {xs : List DV} (hb : w'.heap[b]? = w.heap[b]?) (hr : RowAt β w h b e sz xs) : RowAt β' w' h' b e sz xs := by
  obtain ⟨cur, C, h1, h2, h3, h4, h5, h6, h7⟩ := hr
  exact ⟨cur, C, hb.trans h1, h2, h3, h4, h5, h6, RVs.ext0 he h7⟩
theorem OR.ext0 (he : Ext0 β w h β' w' h') {b : Nat} {x : HO} (hb : w'.heap[b]? = w.heap[b]?) (hr : OR β w h b x) : OR β' w' h' b x := by
  cases x with
  | box t cs =>
    obtain ⟨vs, h1, h2⟩ := hr
    exact ⟨vs, hb.trans h1, RVs.ext0 he h2⟩
  | row e sz g xs => exact RowAt.ext0 he hb hr
  | frz e sz g xs => exact RowAt.ext0 he hb hr
  | map kt et es =>
    obtain ⟨ms, clk, h1, h2, h3⟩ := hr
    exact ⟨ms, clk, hb.trans h1, RVs.ext0 he h2, RVs.ext0 he h3⟩
theorem RowAt.ext (he : Ext β w h β' w' h') {b e sz : Nat} {xs : List DV} (hb : w'.heap[b]? = w.heap[b]?) (hr : RowAt β w h b e sz xs) : RowAt β' w' h' b e sz xs := RowAt.ext0 he.toExt0 hb hr
theorem OR.ext (he : Ext β w h β' w' h') {b : Nat} {x : HO} (hb : w'.heap[b]? = w.heap[b]?) (hr : OR β w h b x) : OR β' w' h' b x := OR.ext0 he.toExt0 hb hr
theorem Hole.set {h : Heap} {o k : Nat} (hh : Hole h o) (hk : o ≠ k) (x : HO) : Hole (h.set k x) o := by
  obtain ⟨t, cs, h1, h2⟩ := hh
  exact ⟨t, cs, by rw [List.getElem?_set_ne (Ne.symm hk)]; exact h1, h2⟩
theorem Hole.app {h : Heap} {o : Nat} (hh : Hole h o) (l : Heap) : Hole (h ++ l) o := by
  obtain ⟨t, cs, h1, h2⟩ := hh
  exact ⟨t, cs, by rw [List.getElem?_append_left (List.getElem?_eq_some_iff.1 h1).1]; exact h1, h2⟩
theorem tot_upd {β : Bm} {h : Heap} (ht : ∀ o, o < h.length → (∃ b, β o = some b) ∨ Hole h o) (k nb : Nat) (x : HO) : ∀ o, o < (h.set k x).length → (∃ b, upd β k nb o = some b) ∨ Hole (h.set k x) o := by
  intro o ho
  by_cases hk : o = k
  · subst hk; exact .inl ⟨nb, upd_self _ _ _⟩
  · rw [upd_ne _ _ hk]
    rcases ht o (by simpa using ho) with h1 | h1
    · exact .inl h1
    · exact .inr (h1.set hk x)
theorem tot_set {β : Bm} {h : Heap} (ht : ∀ o, o < h.length → (∃ b, β o = some b) ∨ Hole h o) {k b : Nat} (hb : β k = some b) (x : HO) : ∀ o, o < (h.set k x).length → (∃ b, β o = some b) ∨ Hole (h.set k x) o := by
  intro o ho
  by_cases hk : o = k
  · subst hk; exact .inl ⟨b, hb⟩
  · rcases ht o (by simpa using ho) with h1 | h1
    · exact .inl h1
    · exact .inr (h1.set hk x)
theorem tot_snoc {β : Bm} {h : Heap} (ht : ∀ o, o < h.length → (∃ b, β o = some b) ∨ Hole h o) (nb : Nat) (x : HO) : ∀ o, o < (h ++ [x]).length → (∃ b, upd β h.length nb o = some b) ∨ Hole (h ++ [x]) o := by
  intro o ho
  by_cases hk : o = h.length
  · subst hk; exact .inl ⟨nb, upd_self _ _ _⟩
  · rw [upd_ne _ _ hk]
    rcases ht o (by simp at ho; omega) with h1 | h1
    · exact .inl h1
    · exact .inr (h1.app _)
theorem Inv.step0 (hI : Inv β w h) (he : Ext0 β w h β' w' h') (hlt : ∀ o b, β' o = some b → o < h'.length ∧ b < w'.heap.size)
    (hinj : ∀ o o' b, β' o = some b → β' o' = some b → o = o') (htot : ∀ o, o < h'.length → (∃ b, β' o = some b) ∨ Hole h' o)
    (hob : ∀ o b x, β' o = some b → h'[o]? = some x → (β o = some b ∧ h[o]? = some x ∧ w'.heap[b]? = w.heap[b]?) ∨ OR β' w' h' b x) : Inv β' w' h' where
  tab := fun p hp => ⟨RV.ext0 he (hI.tab p hp).1, (hI.tab p hp).2⟩
  lt := hlt
  inj := hinj
  tot := htot
  ob o b x hb hx := by
    rcases hob o b x hb hx with ⟨h1, h2, h3⟩ | h1
    · exact OR.ext0 he h3 (hI.ob o b x h1 h2)
    · exact h1
theorem Inv.step (hI : Inv β w h) (he : Ext β w h β' w' h') (hlt : ∀ o b, β' o = some b → o < h'.length ∧ b < w'.heap.size)
    (hinj : ∀ o o' b, β' o = some b → β' o' = some b → o = o') (htot : ∀ o, o < h'.length → (∃ b, β' o = some b) ∨ Hole h' o)
    (hob : ∀ o b x, β' o = some b → h'[o]? = some x → (β o = some b ∧ h[o]? = some x ∧ w'.heap[b]? = w.heap[b]?) ∨ OR β' w' h' b x) : Inv β' w' h' := hI.step0 he.toExt0 hlt hinj htot hob

/-- The same memory. -/
structure Same (w w' : World) : Prop where
  heap : w'.heap = w.heap
  os : w'.os = w.os
  tape : w'.tape = w.tape
  output : w'.output = w.output
theorem Same.refl (w : World) : Same w w := ⟨rfl, rfl, rfl, rfl⟩
theorem Ext.same (hI : Inv β w h) (hs : Same w w') : Ext β w h β w' h where
  os := hs.os
  tape := hs.tape
  output := hs.output
  size := by rw [hs.heap]; exact Nat.le_refl _
  len := Nat.le_refl _
  keep b _ _ := by rw [hs.heap]
  old _ _ hn := hn
  new o b hb := .inl hb
  obj o b x hb hx := by
    have := later_refl w b β o h x hb hx
    cases x with
    | row e sz g xs => exact ⟨b, g, xs, hb, .inl hx, Nat.le_refl _, fun _ => ⟨rfl, rfl, fun cur hc => ⟨cur, by rw [hs.heap]; exact hc, rfl⟩⟩⟩
    | box t cs => exact this
    | frz e sz g xs => exact this
    | map kt et es => exact this
theorem Inv.same (hI : Inv β w h) (hs : Same w w') : Inv β w' h :=
  hI.step (Ext.same hI hs) (fun o b hb => ⟨(hI.lt o b hb).1, by rw [hs.heap]; exact (hI.lt o b hb).2⟩) hI.inj hI.tot (fun o b x hb hx => .inl ⟨hb, hx, by rw [hs.heap]⟩)

theorem alloc_old (w : World) (ob : Obj) {b : Nat} (hb : b < w.heap.size) : (w.alloc ob).heap[b]? = w.heap[b]? := Below.heap_alloc w ob b hb
theorem alloc_new' (w : World) (ob : Obj) : (w.alloc ob).heap[w.heap.size]? = some ob := heap_alloc_new w ob
theorem alloc_size (w : World) (ob : Obj) : (w.alloc ob).heap.size = w.heap.size + 1 := by simp

/-- A new block with a number of its own. -/
theorem Ext.alloc (hI : Inv β w h) (ob : Obj) (x : HO) : Ext β w h (upd β h.length w.heap.size) (w.alloc ob) (h ++ [x]) where
  os := rfl
  tape := rfl
  output := rfl
  size := by rw [alloc_size]; omega
  len := by simp
  keep b hb _ := alloc_old w ob hb
  old o ho hn := by rw [upd_ne _ _ (by omega : o ≠ h.length)]; exact hn
  new o b hb := by
    by_cases ho : o = h.length
    · subst ho; rw [upd_self] at hb; injection hb with hb; subst hb; exact .inr (Nat.le_refl _)
    · rw [upd_ne _ _ ho] at hb; exact .inl hb
  obj o b y hb hy := by
    have hlt := hI.lt o b hb
    have ho : o ≠ h.length := by omega
    have hb' : upd β h.length w.heap.size o = some b := by rw [upd_ne _ _ ho]; exact hb
    have hy' : (h ++ [x])[o]? = some y := by rw [List.getElem?_append_left hlt.1]; exact hy
    cases y with
    | box t cs => exact ⟨hb', cs, hy'⟩
    | frz e sz g xs => exact ⟨hb', hy'⟩
    | map kt et es => exact ⟨hb', es, hy'⟩
    | row e sz g xs => exact ⟨b, g, xs, hb', .inl hy', Nat.le_refl _, fun _ => ⟨rfl, rfl, fun cur hc => ⟨cur, by rw [alloc_old _ _ hlt.2]; exact hc, rfl⟩⟩⟩
theorem Inv.alloc (hI : Inv β w h) (ob : Obj) (x : HO) (hx : OR (upd β h.length w.heap.size) (w.alloc ob) (h ++ [x]) w.heap.size x) : Inv (upd β h.length w.heap.size) (w.alloc ob) (h ++ [x]) := by
  refine hI.step (Ext.alloc hI ob x) (fun o b hb => ?_) (fun o o' b hb hb' => ?_) (tot_snoc hI.tot _ _) (fun o b y hb hy => ?_)
  · by_cases ho : o = h.length
    · subst ho; rw [upd_self] at hb; injection hb with hb; subst hb; simp
    · rw [upd_ne _ _ ho] at hb
      have := hI.lt o b hb
      exact ⟨by simp; omega, by rw [alloc_size]; omega⟩
  · by_cases ho : o = h.length
    · subst ho; rw [upd_self] at hb; injection hb with hb; subst hb
      by_cases ho' : o' = h.length
      · exact ho'.symm
      · rw [upd_ne _ _ ho'] at hb'
        have := hI.lt o' _ hb'
        omega
    · rw [upd_ne _ _ ho] at hb
      by_cases ho' : o' = h.length
      · subst ho'; rw [upd_self] at hb'; injection hb' with hb'; subst hb'
        have := hI.lt o _ hb
        omega
      · rw [upd_ne _ _ ho'] at hb'
        exact hI.inj o o' b hb hb'
  · by_cases ho : o = h.length
    · subst ho; rw [upd_self] at hb; injection hb with hb; subst hb
      have : y = x := by simpa using hy.symm
      subst this
      exact .inr hx
    · rw [upd_ne _ _ ho] at hb
      have hlt := hI.lt o b hb
      rw [List.getElem?_append_left hlt.1] at hy
      exact .inl ⟨hb, hy, alloc_old w ob hlt.2⟩
/-- A new block that has no number. -/
theorem Ext.alloc0 (hI : Inv β w h) (ob : Obj) : Ext β w h β (w.alloc ob) h where
  os := rfl
  tape := rfl
  output := rfl
  size := by rw [alloc_size]; omega
  len := Nat.le_refl _
  keep b hb _ := alloc_old w ob hb
  old _ _ hn := hn
  new o b hb := .inl hb
  obj o b y hb hy := by
    have hlt := hI.lt o b hb
    cases y with
    | box t cs => exact ⟨hb, cs, hy⟩
    | frz e sz g xs => exact ⟨hb, hy⟩
    | map kt et es => exact ⟨hb, es, hy⟩
    | row e sz g xs => exact ⟨b, g, xs, hb, .inl hy, Nat.le_refl _, fun _ => ⟨rfl, rfl, fun cur hc => ⟨cur, by rw [alloc_old _ _ hlt.2]; exact hc, rfl⟩⟩⟩
theorem Inv.alloc0 (hI : Inv β w h) (ob : Obj) : Inv β (w.alloc ob) h :=
  hI.step (Ext.alloc0 hI ob) (fun o b hb => ⟨(hI.lt o b hb).1, by rw [alloc_size]; have := (hI.lt o b hb).2; omega⟩) hI.inj hI.tot
    (fun o b x hb hx => .inl ⟨hb, hx, alloc_old w ob (hI.lt o b hb).2⟩)

/-- Only block b is another one. -/
structure OnlyAt (w w' : World) (b : Nat) : Prop where
  os : w'.os = w.os
  tape : w'.tape = w.tape
  output : w'.output = w.output
  size : w'.heap.size = w.heap.size
  block : ∀ k, k ≠ b → w'.heap[k]? = w.heap[k]?

theorem Ext.write (hI : Inv β w h) {o b : Nat} {x x' : HO} (hb : β o = some b) (hx : h[o]? = some x) (hw : OnlyAt w w' b) (hL : Later w w' b β o (h.set o x') x) (hm : ∀ e sz g xs, x ≠ .frz e sz g xs) : Ext β w h β w' (h.set o x') where
  os := hw.os
  tape := hw.tape
  output := hw.output
  size := by rw [hw.size]; exact Nat.le_refl _
  len := by simp
  keep k hk ha := hw.block k (fun e => by
    subst e
    obtain ⟨e, sz, g, xs, h1⟩ := ha o hb
    rw [hx] at h1
    injection h1 with h1
    exact hm _ _ _ _ h1)
  old _ _ hn := hn
  new o b hb := .inl hb
  obj o' b' y hb' hy := by
    by_cases ho : o' = o
    · subst ho
      rw [hb] at hb'; injection hb' with hb'; subst hb'
      rw [hx] at hy; injection hy with hy; subst hy
      exact hL
    · have hne : b' ≠ b := fun e => by subst e; exact ho (hI.inj o' o b' hb' hb)
      have hy' : (h.set o x')[o']? = some y := by rw [List.getElem?_set_ne (Ne.symm ho)]; exact hy
      cases y with
      | box t cs => exact ⟨hb', cs, hy'⟩
      | frz e sz g xs => exact ⟨hb', hy'⟩
      | map kt et es => exact ⟨hb', es, hy'⟩
      | row e sz g xs => exact ⟨b', g, xs, hb', .inl hy', Nat.le_refl _, fun _ => ⟨rfl, rfl, fun cur hc => ⟨cur, by rw [hw.block _ hne]; exact hc, rfl⟩⟩⟩
theorem Inv.write (hI : Inv β w h) {o b : Nat} {x' : HO} (hb : β o = some b) (hw : OnlyAt w w' b) (he : Ext β w h β w' (h.set o x')) (hx' : OR β w' (h.set o x') b x') : Inv β w' (h.set o x') := by
  refine hI.step he (fun k c hk => ⟨by simpa using (hI.lt k c hk).1, by rw [hw.size]; exact (hI.lt k c hk).2⟩) hI.inj (tot_set hI.tot hb _) (fun k c y hk hy => ?_)
  by_cases ho : k = o
  · subst ho
    rw [hb] at hk; injection hk with hk; subst hk
    have hlt := (hI.lt k b hb).1
    rw [List.getElem?_set_self hlt] at hy
    injection hy with hy; subst hy
    exact .inr hx'
  · rw [List.getElem?_set_ne (Ne.symm ho)] at hy
    have hne : c ≠ b := fun e => by subst e; exact ho (hI.inj k o c hk hb)
    exact .inl ⟨hk, hy, hw.block c hne⟩
/-- A number goes on to a new block. -/
theorem Ext.move (hI : Inv β w h) {o b : Nat} {x x' : HO} (ob : Obj) (hb : β o = some b) (hx : h[o]? = some x)
    (hL : Later w (w.alloc ob) b (upd β o w.heap.size) o (h.set o x') x) : Ext β w h (upd β o w.heap.size) (w.alloc ob) (h.set o x') where
  os := rfl
  tape := rfl
  output := rfl
  size := by rw [alloc_size]; omega
  len := by simp
  keep k hk ha := alloc_old w ob hk
  old k _ hn := by rw [upd_ne _ _ (fun e => by subst e; rw [hb] at hn; cases hn)]; exact hn
  new k c hk := by
    by_cases ho : k = o
    · subst ho; rw [upd_self] at hk; injection hk with hk; subst hk; exact .inr (Nat.le_refl _)
    · rw [upd_ne _ _ ho] at hk; exact .inl hk
  obj o' b' y hb' hy := by
    by_cases ho : o' = o
    · subst ho
      rw [hb] at hb'; injection hb' with hb'; subst hb'
      rw [hx] at hy; injection hy with hy; subst hy
      exact hL
    · have hlt := hI.lt o' b' hb'
      have hy' : (h.set o x')[o']? = some y := by rw [List.getElem?_set_ne (Ne.symm ho)]; exact hy
      have hb2 : upd β o w.heap.size o' = some b' := by rw [upd_ne _ _ ho]; exact hb'
      cases y with
      | box t cs => exact ⟨hb2, cs, hy'⟩
      | frz e sz g xs => exact ⟨hb2, hy'⟩
      | map kt et es => exact ⟨hb2, es, hy'⟩
      | row e sz g xs => exact ⟨b', g, xs, hb2, .inl hy', Nat.le_refl _, fun _ => ⟨rfl, rfl, fun cur hc => ⟨cur, by rw [alloc_old _ _ hlt.2]; exact hc, rfl⟩⟩⟩
theorem Inv.move (hI : Inv β w h) {o b : Nat} {x' : HO} (ob : Obj) (hb : β o = some b) (he : Ext β w h (upd β o w.heap.size) (w.alloc ob) (h.set o x'))
    (hx' : OR (upd β o w.heap.size) (w.alloc ob) (h.set o x') w.heap.size x') : Inv (upd β o w.heap.size) (w.alloc ob) (h.set o x') := by
  refine hI.step he (fun k c hk => ?_) (fun k k' c hk hk' => ?_) (tot_upd hI.tot _ _ _) (fun k c y hk hy => ?_)
  · by_cases ho : k = o
    · subst ho; rw [upd_self] at hk; injection hk with hk; subst hk
      exact ⟨by simpa using (hI.lt k b hb).1, by rw [alloc_size]; omega⟩
    · rw [upd_ne _ _ ho] at hk
      have := hI.lt k c hk
      exact ⟨by simpa using this.1, by rw [alloc_size]; omega⟩
  · by_cases ho : k = o
    · subst ho; rw [upd_self] at hk; injection hk with hk; subst hk
      by_cases ho' : k' = k
      · exact ho'.symm
      · rw [upd_ne _ _ ho'] at hk'
        have := hI.lt k' _ hk'
        omega
    · rw [upd_ne _ _ ho] at hk
      by_cases ho' : k' = o
      · subst ho'; rw [upd_self] at hk'; injection hk' with hk'; subst hk'
        have := hI.lt k _ hk
        omega
      · rw [upd_ne _ _ ho'] at hk'
        exact hI.inj k k' c hk hk'
  · by_cases ho : k = o
    · subst ho; rw [upd_self] at hk; injection hk with hk; subst hk
      have hlt := (hI.lt k b hb).1
      rw [List.getElem?_set_self hlt] at hy
      injection hy with hy; subst hy
      exact .inr hx'
    · rw [upd_ne _ _ ho] at hk
      have hlt := hI.lt k c hk
      rw [List.getElem?_set_ne (Ne.symm ho)] at hy
      exact .inl ⟨hk, hy, alloc_old w ob hlt.2⟩
/-- A box that had no block yet gets one. -/
theorem Ext0.fill (hI : Inv β w h) (ob : Obj) {k : Nat} (hk : β k = none) : Ext0 β w h (upd β k w.heap.size) (w.alloc ob) h where
  os := rfl
  tape := rfl
  output := rfl
  size := by rw [alloc_size]; omega
  len := Nat.le_refl _
  keep b hb _ := alloc_old w ob hb
  new o b hb := by
    by_cases ho : o = k
    · subst ho; rw [upd_self] at hb; injection hb with hb; subst hb; exact .inr (Nat.le_refl _)
    · rw [upd_ne _ _ ho] at hb; exact .inl hb
  obj o b y hb hy := by
    have hlt := hI.lt o b hb
    have ho : o ≠ k := fun e => by subst e; rw [hk] at hb; cases hb
    have hb' : upd β k w.heap.size o = some b := by rw [upd_ne _ _ ho]; exact hb
    cases y with
    | box t cs => exact ⟨hb', cs, hy⟩
    | frz e sz g xs => exact ⟨hb', hy⟩
    | map kt et es => exact ⟨hb', es, hy⟩
    | row e sz g xs => exact ⟨b, g, xs, hb', .inl hy, Nat.le_refl _, fun _ => ⟨rfl, rfl, fun cur hc => ⟨cur, by rw [alloc_old _ _ hlt.2]; exact hc, rfl⟩⟩⟩
theorem Inv.fill (hI : Inv β w h) {t : Nat} {cs : List DV} {us : Array Value} {k : Nat} (hk : β k = none) (hx : h[k]? = some (.box t cs)) (hr : ∀ β' w', RVs β' w' h cs us.toList) : Inv (upd β k w.heap.size) (w.alloc (.cells us t)) h := by
  refine hI.step0 (Ext0.fill hI _ hk) (fun o b hb => ?_) (fun o o' b hb hb' => ?_) (fun o ho => ?_) (fun o b y hb hy => ?_)
  · by_cases ho : o = k
    · subst ho; rw [upd_self] at hb; injection hb with hb; subst hb; exact ⟨(List.getElem?_eq_some_iff.1 hx).1, by rw [alloc_size]; omega⟩
    · rw [upd_ne _ _ ho] at hb
      have := hI.lt o b hb
      exact ⟨this.1, by rw [alloc_size]; omega⟩
  · by_cases ho : o = k
    · subst ho; rw [upd_self] at hb; injection hb with hb; subst hb
      by_cases ho' : o' = o
      · exact ho'.symm
      · rw [upd_ne _ _ ho'] at hb'
        have := hI.lt o' _ hb'
        omega
    · rw [upd_ne _ _ ho] at hb
      by_cases ho' : o' = k
      · subst ho'; rw [upd_self] at hb'; injection hb' with hb'; subst hb'
        have := hI.lt o _ hb
        omega
      · rw [upd_ne _ _ ho'] at hb'
        exact hI.inj o o' b hb hb'
  · by_cases ho' : o = k
    · subst ho'; exact .inl ⟨_, upd_self _ _ _⟩
    · rw [upd_ne _ _ ho']; exact hI.tot o ho
  · by_cases ho : o = k
    · subst ho; rw [upd_self] at hb; injection hb with hb; subst hb
      rw [hx] at hy; injection hy with hy; subst hy
      exact .inr ⟨us.toList, by simpa using alloc_new' w (.cells us t), hr _ _⟩
    · rw [upd_ne _ _ ho] at hb
      exact .inl ⟨hb, hy, alloc_old w _ (hI.lt o b hb).2⟩
/-- A row is frozen. -/
theorem Ext.freeze (hI : Inv β w h) {o b e sz g : Nat} {xs : List DV} (hb : β o = some b) (hx : h[o]? = some (.row e sz g xs)) : Ext β w h β w (h.set o (.frz e sz g xs)) where
  os := rfl
  tape := rfl
  output := rfl
  size := Nat.le_refl _
  len := by simp
  keep k hk ha := rfl
  old _ _ hn := hn
  new k c hk := .inl hk
  obj o' b' y hb' hy := by
    by_cases ho : o' = o
    · subst ho
      rw [hx] at hy; injection hy with hy; subst hy
      have hlt := (hI.lt o' _ hb).1
      exact ⟨b', g, xs, hb', .inr (List.getElem?_set_self hlt), Nat.le_refl _, fun _ => ⟨rfl, rfl, fun cur hc => ⟨cur, hc, rfl⟩⟩⟩
    · have hy' : (h.set o (.frz e sz g xs))[o']? = some y := by rw [List.getElem?_set_ne (Ne.symm ho)]; exact hy
      exact later_refl w b' β o' _ y hb' hy'
theorem Inv.freeze (hI : Inv β w h) {o b e sz g : Nat} {xs : List DV} (hb : β o = some b) (hx : h[o]? = some (.row e sz g xs)) : Inv β w (h.set o (.frz e sz g xs)) := by
  have he := Ext.freeze hI hb hx
  refine hI.step he (fun k c hk => ⟨by simpa using (hI.lt k c hk).1, (hI.lt k c hk).2⟩) hI.inj (tot_set hI.tot hb _) (fun k c y hk hy => ?_)
  by_cases ho : k = o
  · subst ho
    have hlt := (hI.lt k _ hb).1
    rw [List.getElem?_set_self hlt] at hy
    injection hy with hy; subst hy
    exact .inr (RowAt.ext he rfl (hI.ob k c _ hk hx))
  · rw [List.getElem?_set_ne (Ne.symm ho)] at hy
    exact .inl ⟨hk, hy, rfl⟩
end
end Go.Proofs.YtfgnefnpfgdliaaDoor
