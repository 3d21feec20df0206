/- What ideal values and heaps say of real ones: the relation, and that it lives on whatever is written elsewhere. -/
import Derived.Test.YtfgnefnpfgdliaaDoorEngA
import Derived.Test.YtfgnefnpfgdliaaDoorTabs
import Derived.WalkKit
import Derived.Deep.Draws
import Derived.Laws.Rows
namespace Go.Proofs.YtfgnefnpfgdliaaDoor
open Go.RowKit
set_option linter.unusedVariables false
set_option linter.unusedSimpArgs false

abbrev Bm := Nat → Option Nat

/-- Block b is none that may be written. -/
def Away (β : Bm) (h : Heap) (b : Nat) : Prop := ∀ o, β o = some b → ∃ e sz g xs, h[o]? = some (.frz e sz g xs)

def flat (xs : List DV) : List DV := xs.flatMap DV.cells

def CellsAt (β : Bm) (w : World) (h : Heap) (a : Addr) (vs : List Value) : Prop := ∀ j v, vs[j]? = some v → Away β h a.block ∧ w.cell? (a.add j) = some v

mutual
inductive RV (β : Bm) (w : World) (h : Heap) : DV → Value → Prop where
  | bool (b) : RV β w h (.bool b) (.bool b)
  | int (k n) : RV β w h (.int k n) (.int k n)
  | str (s) : RV β w h (.str s) (.string s)
  | nilp : RV β w h .nilp (.pointer none)
  | ref {o p b t cs} (hb : β o = some b) (ho : h[o]? = some (.box t cs)) : RV β w h (.ref o p) (.pointer (some ⟨b, p, none⟩))
  | elem {d sz i p A n cap} (hd : RV β w h d (.slice (some A) n cap)) (hi : i < n) : RV β w h (.elem d sz i p) (.pointer (some (A.add (i * sz + p))))
  | nils : RV β w h .nils (.slice none 0 0)
  | list {sz xs c vs a n cap} (hn : n = xs.length) (hc : n ≤ cap) (hcc : c = true → cap = n) (hnr : ∀ x ∈ xs, Nr x) (hw : ∀ x ∈ xs, Wc sz x) (hr : RVs β w h (flat xs) vs) (ha : CellsAt β w h a vs) :
      RV β w h (.list sz xs c) (.slice (some a) n cap)
  | row {o g lo n c a cap b e sz g' xs} (hb : β o = some b) (hc : n ≤ cap) (hcc : c = true → cap = n) (ho : h[o]? = some (.row e sz g' xs) ∨ h[o]? = some (.frz e sz g' xs)) (hg : g ≤ g')
      (hs : g = g' → lo + n ≤ xs.length ∧ (0 < n → a = ⟨b, lo * sz, none⟩) ∧ (lo = 0 → a = ⟨b, 0, none⟩ ∧ (c = false → h[o]? = some (.row e sz g' xs) → ∃ cur, w.heap[b]? = some (.cells cur e (0, 0)) ∧ cur.size = cap * sz))) :
      RV β w h (.row o g lo n c) (.slice (some a) n cap)
  | nilm : RV β w h .nilm (.map none)
  | map {o b kt et es} (hb : β o = some b) (ho : h[o]? = some (.map kt et es)) : RV β w h (.map o) (.map (some b))
  | nilf : RV β w h .nilf .nilFunc
  | func {f a b va vb} (ha : RVs β w h a va) (hb : RVs β w h b vb) : RV β w h (.func f a b) (.func (.func f) va.toArray vb.toArray)
  | nili : RV β w h .nili .nilIface
  | ifc {t d v} (hd : RV β w h d v) : RV β w h (.ifc t d) (.iface t v)
  | agg {cs vs} (hr : RVs β w h cs vs) : RV β w h (.agg cs) (.agg vs.toArray)
  | tup {cs vs} (hr : RVs β w h cs vs) : RV β w h (.tup cs) (.tuple vs.toArray)
  | undef (v) : RV β w h .undef v
inductive RVs (β : Bm) (w : World) (h : Heap) : List DV → List Value → Prop where
  | nil : RVs β w h [] []
  | cons {d v ds vs} (hd : RV β w h d v) (hs : RVs β w h ds vs) : RVs β w h (d :: ds) (v :: vs)
end

/-- A block that holds a row's elements. -/
def RowAt (β : Bm) (w : World) (h : Heap) (b e sz : Nat) (xs : List DV) : Prop :=
  ∃ cur C, w.heap[b]? = some (.cells cur e (0, 0)) ∧ cur.size = C * sz ∧ xs.length ≤ C ∧ C ≤ maxLen ∧ 0 < sz ∧ (∀ x ∈ xs, Wc sz x) ∧ RVs β w h (flat xs) (cur.toList.take (xs.length * sz))

def OR (β : Bm) (w : World) (h : Heap) (b : Nat) : HO → Prop
  | .box t cs => ∃ vs : List Value, w.heap[b]? = some (.cells vs.toArray t (0, 0)) ∧ RVs β w h cs vs
  | .row e sz _ xs => RowAt β w h b e sz xs
  | .frz e sz _ xs => RowAt β w h b e sz xs
  | .map _ _ es => ∃ (ms : Array MapEntry) (clk : Nat), w.heap[b]? = some (.map ms clk) ∧ RVs β w h (es.map (·.1)) (ms.toList.map (·.key)) ∧ RVs β w h (es.map (·.2)) (ms.toList.map (·.val))

/-- The tables read as they were laid, and are none that may be written. -/
def Tabs (β : Bm) (w : World) (h : Heap) : Prop := ∀ p ∈ tabs, RV β w h (.list p.2.length [.agg p.2] true) (.slice (some ⟨p.1, 0, none⟩) 1 1) ∧ ∀ x ∈ p.2, Nr x

/-- A box of plain cells, that may have no block yet. -/
def Hole (h : Heap) (o : Nat) : Prop := ∃ t cs, h[o]? = some (.box t cs) ∧ ∀ c ∈ cs, Nr c
structure Inv (β : Bm) (w : World) (h : Heap) : Prop where
  tab : Tabs β w h
  lt : ∀ o b, β o = some b → o < h.length ∧ b < w.heap.size
  inj : ∀ o o' b, β o = some b → β o' = some b → o = o'
  ob : ∀ o b x, β o = some b → h[o]? = some x → OR β w h b x
  tot : ∀ o, o < h.length → (∃ b, β o = some b) ∨ Hole h o

/-- What becomes of what lies behind a number. -/
def Later (w w' : World) (b : Nat) (β' : Bm) (o : Nat) (h' : Heap) : HO → Prop
  | .box t _ => β' o = some b ∧ ∃ cs, h'[o]? = some (.box t cs)
  | .frz e sz g xs => β' o = some b ∧ h'[o]? = some (.frz e sz g xs)
  | .map kt et _ => β' o = some b ∧ ∃ es, h'[o]? = some (.map kt et es)
  | .row e sz g xs => ∃ b' g' xs', β' o = some b' ∧ (h'[o]? = some (.row e sz g' xs') ∨ h'[o]? = some (.frz e sz g' xs')) ∧ g ≤ g' ∧
      (g = g' → b' = b ∧ xs'.length = xs.length ∧ ∀ cur, w.heap[b]? = some (.cells cur e (0, 0)) → ∃ cur', w'.heap[b]? = some (.cells cur' e (0, 0)) ∧ cur'.size = cur.size)

structure Ext0 (β : Bm) (w : World) (h : Heap) (β' : Bm) (w' : World) (h' : Heap) : Prop where
  os : w'.os = w.os
  tape : w'.tape = w.tape
  output : w'.output = w.output
  size : w.heap.size ≤ w'.heap.size
  len : h.length ≤ h'.length
  keep : ∀ b, b < w.heap.size → Away β h b → w'.heap[b]? = w.heap[b]?
  new : ∀ o b, β' o = some b → β o = some b ∨ w.heap.size ≤ b
  obj : ∀ o b x, β o = some b → h[o]? = some x → Later w w' b β' o h' x
/-- Nothing that had no block gets one. -/
structure Ext (β : Bm) (w : World) (h : Heap) (β' : Bm) (w' : World) (h' : Heap) : Prop extends Ext0 β w h β' w' h' where
  old : ∀ o, o < h.length → β o = none → β' o = none

theorem later_refl (w : World) (b : Nat) (β : Bm) (o : Nat) (h : Heap) (x : HO) (hb : β o = some b) (hx : h[o]? = some x) : Later w w b β o h x := by
  cases x with
  | box t cs => exact ⟨hb, cs, hx⟩
  | row e sz g xs => exact ⟨b, g, xs, hb, .inl hx, Nat.le_refl _, fun _ => ⟨rfl, rfl, fun cur hc => ⟨cur, hc, rfl⟩⟩⟩
  | frz e sz g xs => exact ⟨hb, hx⟩
  | map kt et es => exact ⟨hb, es, hx⟩
theorem Ext.refl (β : Bm) (w : World) (h : Heap) : Ext β w h β w h :=
  ⟨⟨rfl, rfl, rfl, Nat.le_refl _, Nat.le_refl _, fun _ _ _ => rfl, fun _ _ hb => .inl hb, fun o b x hb hx => later_refl w b β o h x hb hx⟩, fun _ _ hn => hn⟩

section
variable {β β' β1 : Bm} {w w' w1 : World} {h h' h1 : Heap}

theorem Away.ext0 (he : Ext0 β w h β' w' h') {b : Nat} (hb : b < w.heap.size) (ha : Away β h b) : Away β' h' b := by
  intro o ho
  rcases he.new o b ho with h1 | h1
  · obtain ⟨e, sz, g, xs, hx⟩ := ha o h1
    exact ⟨e, sz, g, xs, (he.obj o b _ h1 hx).2⟩
  · omega
theorem later_trans0 {b o : Nat} {x : HO} (h0 : Inv β w h) (he : Ext0 β w h β1 w1 h1) (he' : Ext0 β1 w1 h1 β' w' h') (hb : β o = some b) (hx : h[o]? = some x) : Later w w' b β' o h' x := by
  have l1 := he.obj o b x hb hx
  cases x with
  | box t cs =>
    obtain ⟨b1, cs1, x1⟩ := l1
    exact he'.obj o b _ b1 x1
  | frz e sz g xs =>
    obtain ⟨b1, x1⟩ := l1
    exact he'.obj o b _ b1 x1
  | map kt et es =>
    obtain ⟨b1, es1, x1⟩ := l1
    exact he'.obj o b _ b1 x1
  | row e sz g xs =>
    obtain ⟨b1, g1, xs1, hb1, hx1, hg1, hs1⟩ := l1
    rcases hx1 with hx1 | hx1
    · obtain ⟨b2, g2, xs2, hb2, hx2, hg2, hs2⟩ := he'.obj o b1 _ hb1 hx1
      refine ⟨b2, g2, xs2, hb2, hx2, by omega, fun hg => ?_⟩
      obtain ⟨e1, e2, e3⟩ := hs1 (by omega)
      obtain ⟨f1, f2, f3⟩ := hs2 (by omega)
      subst e1
      refine ⟨f1, f2.trans e2, fun cur hc => ?_⟩
      obtain ⟨c1, hc1, hl1⟩ := e3 cur hc
      obtain ⟨c2, hc2, hl2⟩ := f3 c1 hc1
      exact ⟨c2, hc2, hl2.trans hl1⟩
    · obtain ⟨hb2, hx2⟩ := he'.obj o b1 _ hb1 hx1
      refine ⟨b1, g1, xs1, hb2, .inr hx2, hg1, fun hg => ?_⟩
      obtain ⟨e1, e2, e3⟩ := hs1 hg
      subst e1
      refine ⟨rfl, e2, fun cur hc => ?_⟩
      obtain ⟨c1, hc1, hl1⟩ := e3 cur hc
      have hlt : b1 < w1.heap.size := by have := (h0.lt o b1 hb).2; have := he.size; omega
      have haw : Away β1 h1 b1 := by
        intro o' ho'
        rcases he.new o' b1 ho' with h2 | h2
        · have := h0.inj o o' b1 hb h2; subst this; exact ⟨_, _, _, _, hx1⟩
        · have := (h0.lt o b1 hb).2; omega
      exact ⟨c1, (he'.keep b1 hlt haw).trans hc1, hl1⟩
theorem Ext0.trans (h0 : Inv β w h) (he : Ext0 β w h β1 w1 h1) (he' : Ext0 β1 w1 h1 β' w' h') : Ext0 β w h β' w' h' where
  os := he'.os.trans he.os
  tape := he'.tape.trans he.tape
  output := he'.output.trans he.output
  size := Nat.le_trans he.size he'.size
  len := Nat.le_trans he.len he'.len
  keep b hb ha := (he'.keep b (Nat.lt_of_lt_of_le hb he.size) (ha.ext0 he hb)).trans (he.keep b hb ha)
  new o b ho := by
    rcases he'.new o b ho with h2 | h2
    · exact he.new o b h2
    · exact .inr (Nat.le_trans he.size h2)
  obj o b x hb hx := later_trans0 h0 he he' hb hx

theorem Ext.trans (h0 : Inv β w h) (he : Ext β w h β1 w1 h1) (he' : Ext β1 w1 h1 β' w' h') : Ext β w h β' w' h' :=
  ⟨Ext0.trans h0 he.toExt0 he'.toExt0, fun o ho hn => he'.old o (Nat.lt_of_lt_of_le ho he.len) (he.old o ho hn)⟩
theorem Away.ext (he : Ext β w h β' w' h') {b : Nat} (hb : b < w.heap.size) (ha : Away β h b) : Away β' h' b := ha.ext0 he.toExt0 hb
theorem add_block (a : Addr) (n : Nat) : (a.add n).block = a.block := by unfold Addr.add; split <;> rfl
theorem add_add' (a : Addr) (i j : Nat) : (a.add i).add j = a.add (i + j) := by
  unfold Addr.add
  by_cases hi : i = 0 <;> by_cases hj : j = 0 <;> simp [hi, hj, Nat.add_assoc]
theorem add_p (b p n : Nat) : (⟨b, p, none⟩ : Addr).add n = ⟨b, p + n, none⟩ := by unfold Addr.add; split <;> simp_all

theorem CellsAt.ext0 (he : Ext0 β w h β' w' h') {a : Addr} {vs : List Value} (hc : CellsAt β w h a vs) : CellsAt β' w' h' a vs := by
  intro j v hv
  obtain ⟨h1, h2⟩ := hc j v hv
  have hlt : a.block < w.heap.size := by have := World.block_lt_of_cell? w _ h2; rwa [add_block] at this
  refine ⟨h1.ext0 he hlt, ?_⟩
  rw [World.cell?_of_block (w := w) (by rw [add_block]; exact he.keep _ hlt h1)]
  exact h2

mutual
theorem RV.ext0 (he : Ext0 β w h β' w' h') : ∀ {d v}, RV β w h d v → RV β' w' h' d v
  | _, _, .bool b => .bool b
  | _, _, .int k n => .int k n
  | _, _, .str s => .str s
  | _, _, .nilp => .nilp
  | _, _, .ref hb ho => by
    obtain ⟨h1, cs, h2⟩ := he.obj _ _ _ hb ho
    exact .ref h1 h2
  | _, _, .elem hd hi => .elem (RV.ext0 he hd) hi
  | _, _, .nils => .nils
  | _, _, .list hn hc hcc hnr hw hr ha => .list hn hc hcc hnr hw (RVs.ext0 he hr) (ha.ext0 he)
  | _, _, .row (g := g) (lo := lo) (n := n) (c := c) (a := a) (cap := cap) (b := b) (e := e) (sz := sz) (g' := g') (xs := xs) hb hc hcc ho hg hs => by
    rcases ho with ho | ho
    · obtain ⟨b1, g1, xs1, hb1, hx1, hg1, hs1⟩ := he.obj _ _ _ hb ho
      refine .row hb1 hc hcc hx1 (Nat.le_trans hg hg1) (fun e1 => ?_)
      obtain ⟨f1, f2, f3⟩ := hs1 (by omega)
      obtain ⟨k1, k2, k3⟩ := hs (by omega)
      subst f1
      refine ⟨by omega, k2, fun hlo => ⟨(k3 hlo).1, fun hcf _ => ?_⟩⟩
      obtain ⟨cur, hcur, hsz⟩ := (k3 hlo).2 hcf ho
      obtain ⟨cur', hcur', hsz'⟩ := f3 cur hcur
      exact ⟨cur', hcur', hsz'.trans hsz⟩
    · obtain ⟨hb1, hx1⟩ := he.obj _ _ _ hb ho
      refine .row hb1 hc hcc (.inr hx1) hg (fun e1 => ?_)
      obtain ⟨k1, k2, k3⟩ := hs e1
      refine ⟨k1, k2, fun hlo => ⟨(k3 hlo).1, fun hcf hr => ?_⟩⟩
      rw [hx1] at hr
      cases hr
  | _, _, .nilm => .nilm
  | _, _, .map hb ho => by
    obtain ⟨h1, es, h2⟩ := he.obj _ _ _ hb ho
    exact .map h1 h2
  | _, _, .nilf => .nilf
  | _, _, .func ha hb => .func (RVs.ext0 he ha) (RVs.ext0 he hb)
  | _, _, .nili => .nili
  | _, _, .ifc hd => .ifc (RV.ext0 he hd)
  | _, _, .agg hr => .agg (RVs.ext0 he hr)
  | _, _, .tup hr => .tup (RVs.ext0 he hr)
  | _, _, .undef v => .undef v
theorem RVs.ext0 (he : Ext0 β w h β' w' h') : ∀ {ds vs}, RVs β w h ds vs → RVs β' w' h' ds vs
  | _, _, .nil => .nil
  | _, _, .cons hd hs => .cons (RV.ext0 he hd) (RVs.ext0 he hs)
end
theorem CellsAt.ext (he : Ext β w h β' w' h') {a : Addr} {vs : List Value} (hc : CellsAt β w h a vs) : CellsAt β' w' h' a vs := hc.ext0 he.toExt0
theorem RV.ext (he : Ext β w h β' w' h') {d : DV} {v : Value} (hr : RV β w h d v) : RV β' w' h' d v := RV.ext0 he.toExt0 hr
theorem RVs.ext (he : Ext β w h β' w' h') {ds : List DV} {vs : List Value} (hr : RVs β w h ds vs) : RVs β' w' h' ds vs := RVs.ext0 he.toExt0 hr
end
end Go.Proofs.YtfgnefnpfgdliaaDoor
