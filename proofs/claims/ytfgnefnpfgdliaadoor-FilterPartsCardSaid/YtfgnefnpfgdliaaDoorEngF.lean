/- Each operation that is no call does what the ideal machine says: loads, stores, boxes, arithmetic. -/
import Derived.Test.YtfgnefnpfgdliaaDoorEngE
import Derived.Laws.CopyRow
import Derived.Laws.StructEq
namespace Go.Proofs.YtfgnefnpfgdliaaDoor
open Go.RowKit
set_option linter.unusedVariables false
set_option linter.unusedSimpArgs false

def Did (P : Program) (s : Sem Next) (w : World) (v : Value) (w' : World) : Prop := s.run P w = .ok (.value v) w' ∨ (s.run P w = .ok .skip w' ∧ v = undef)
def Good (P : Program) (β : Bm) (w : World) (h : Heap) (s : Sem Next) (d : DV) (h' : Heap) : Prop :=
  ∃ v w' β', Did P s w v w' ∧ Ext β w h β' w' h' ∧ Inv β' w' h' ∧ RV β' w' h' d v

section
variable {P : Program} {β β' : Bm} {w w' : World} {h h' : Heap}

theorem last_get (h : Heap) (x : HO) : (h ++ [x])[h.length]? = some x := by simp
theorem flat_set {sz : Nat} {y y' : DV} {p : Nat} {new : List DV} (hy' : y'.cells = splice y.cells p new) (hp : p + new.length ≤ sz) :
    ∀ {xs : List DV} (k : Nat), (∀ x ∈ xs, x.cells.length = sz) → xs[k]? = some y → flat (xs.set k y') = splice (flat xs) (k * sz + p) new
  | [], k, _, hk => by simp at hk
  | x :: l, 0, hw, hk => by
    simp at hk; subst hk
    have hx := hw x (by simp)
    simp only [List.set_cons_zero, flat, List.flatMap_cons, hy', splice, Nat.zero_mul, Nat.zero_add]
    rw [List.take_append, List.drop_append, show p - x.cells.length = 0 by omega, show p + new.length - x.cells.length = 0 by omega]
    simp
  | x :: l, k + 1, hw, hk => by
    have hx := hw x (by simp)
    have ih := flat_set hy' hp (xs := l) k (fun z hz => hw z (by simp [hz])) (by simpa using hk)
    simp only [flat] at ih
    have e1 : (k + 1) * sz + p = x.cells.length + (k * sz + p) := by rw [Nat.succ_mul, hx]; omega
    simp only [List.set_cons_succ, flat, List.flatMap_cons, ih, splice, e1]
    rw [Nat.add_assoc x.cells.length, List.take_length_add_append, List.drop_length_add_append]
    simp
theorem Good.quiet (hI : Inv β w h) {s : Sem Next} {d : DV} {v : Value} (hs : s.run P w = .ok (.value v) w) (hr : RV β w h d v) : Good P β w h s d h :=
  ⟨v, w, β, .inl hs, Ext.refl β w h, hI, hr⟩
theorem run_isAgg {t : TypeId} {ag : Bool} (ht : tyAgg P t = some ag) : (isAgg t).run P w = .ok ag w := by
  unfold tyAgg at ht
  cases hu : P.underlying t with
  | none => rw [hu] at ht; cases ht
  | some d =>
    rw [hu] at ht
    cases d <;> (simp only at ht; injection ht with ht; subst ht; simp [isAgg, run_underlying hu])
theorem run_sizeOf {t : TypeId} {sz : Nat} (hs : tySize P t = some sz) : (sizeOf t).run P w = .ok sz w := by
  unfold tySize at hs
  split at hs
  · rename_i i hi
    injection hs with hs; subst hs
    simp [sizeOf, typeInfo, hi]
  · cases hs
theorem run_zeroValue {t : TypeId} {z : Value} (hz : tyZero P t = some z) : (zeroValue t).run P w = .ok z w := by
  unfold tyZero at hz
  split at hz
  · rename_i i hi
    simp [zeroValue, typeInfo, hi, hz]
  · cases hz

/-- Cells read at an address, as the ideal machine reads them. -/
theorem load_at {t : TypeId} {ag : Bool} {sz p : Nat} {cs : List DV} {d : DV} {vs : List Value} {a : Addr} (ht : tyAgg P t = some ag) (hs : tySize P t = some sz)
    (hr : RVs β w h cs vs) (hc : ∀ j v, vs[j]? = some v → w.cell? (a.add j) = some v) (hd : rdc ag sz cs p = some d) : ∃ u, (loadVar t (a.add p)).run P w = .ok u w ∧ RV β w h d u := by
  unfold rdc at hd
  unfold loadVar
  rw [Sem.run_bind, run_isAgg ht]
  cases ag with
  | true =>
    simp only [if_true] at hd
    split at hd
    · rename_i hl
      injection hd with hd; subst hd
      have hlen := hr.len
      have h1 : ((vs.drop p).take sz).length = sz := by rw [List.length_take, List.length_drop]; omega
      have h2 := run_loadCells_list (P := P) w (a.add p) ((vs.drop p).take sz) (fun j v hj => by
        rw [add_add']
        refine hc (p + j) v ?_
        rw [List.getElem?_take] at hj
        split at hj
        · rwa [List.getElem?_drop] at hj
        · cases hj)
      rw [h1] at h2
      refine ⟨_, by simp [run_sizeOf hs, h2]; rfl, ?_⟩
      exact .agg ((hr.drop p).take sz)
    · cases hd
  | false =>
    simp only [Bool.false_eq_true, if_false] at hd
    obtain ⟨u, hu, hru⟩ := hr.get hd
    refine ⟨u, ?_, hru⟩
    have := hc p u hu
    simp [load, Sem.run, this]

theorem good_load (hI : Inv β w h) {t : TypeId} {ag : Bool} {sz : Nat} {x d : DV} {v : Value} (ht : tyAgg P t = some ag) (hs : tySize P t = some sz) (hx : RV β w h x v) (hd : ldx h ag sz x = some d) :
    ∃ u, (Instr.loadAt t v).run P w = .ok u w ∧ RV β w h d u := by
  cases hx with
  | ref hb ho =>
    rename_i o p b t' cs
    simp only [ldx, ho] at hd
    obtain ⟨vs, h1, h2⟩ := hI.ob _ _ _ hb ho
    obtain ⟨u, hu, hru⟩ := load_at (a := ⟨b, 0, none⟩) ht hs h2 (fun j v hj => by rw [add_p, cell_of_row w b _ _ _ _ h1]; simpa using hj) hd
    rw [add_p, Nat.zero_add] at hu
    exact ⟨u, by simpa [Instr.loadAt, Instr.sureAddr] using hu, hru⟩
  | elem hd0 hi =>
    rename_i d0 sz' i p A n cap
    simp only [ldx] at hd
    cases hv : vw h sz' d0 with
    | none => rw [hv] at hd; cases hd
    | some xs =>
      rw [hv] at hd
      simp only at hd
      obtain ⟨hn, hw, hcs⟩ := vw_cells hI hd0 hv
      cases hxi : xs[i]? with
      | none => rw [hxi] at hd; cases hd
      | some x =>
        rw [hxi] at hd
        simp only at hd
        rcases hcs with rfl | ⟨a0, vs, ha, hr, hc⟩
        · simp at hxi
        · injection ha with ha; subst ha
          have hw' : ∀ x ∈ xs, x.cells.length = sz' := fun x hx => (hw x hx).1
          have hxm := List.mem_of_getElem? hxi
          have hil : i < xs.length := (List.getElem?_eq_some_iff.1 hxi).1
          have hxc : x.cells = ((flat xs).drop (i * sz')).take sz' := by
            apply List.ext_getElem?
            intro j
            rw [List.getElem?_take]
            split
            · rename_i hj; rw [List.getElem?_drop, flat_get i j hw' hxi hj]
            · rename_i hj; rw [List.getElem?_eq_none]; rw [hw' x hxm]; omega
          have hr' : RVs β w h x.cells ((vs.drop (i * sz')).take sz') := by rw [hxc]; exact (hr.drop _).take _
          obtain ⟨u, hu, hru⟩ := load_at (a := A.add (i * sz')) ht hs hr' (fun j v hj => by
            rw [add_add']
            refine hc (i * sz' + j) v ?_
            rw [List.getElem?_take] at hj
            split at hj
            · rwa [List.getElem?_drop] at hj
            · cases hj) hd
          rw [add_add'] at hu
          exact ⟨u, by simpa [Instr.loadAt, Instr.sureAddr] using hu, hru⟩
  | bool | int | str | nilp | nils | list | row | nilm | map | nilf | func | nili | ifc | agg | tup | undef => simp [ldx] at hd

/-! ### Boxes -/
theorem good_box (hI : Inv β w h) {t : TypeId} {x : DV} {v : Value} (hx : RV β w h x v) (hu : x.isU = false) :
    ∃ w' β', (Instr.box t v).run P w = .ok (.pointer (some ⟨w.heap.size, 0, none⟩)) w' ∧ Ext β w h β' w' (h ++ [.box t x.cells]) ∧ Inv β' w' (h ++ [.box t x.cells]) ∧
      RV β' w' (h ++ [.box t x.cells]) (.ref h.length 0) (.pointer (some ⟨w.heap.size, 0, none⟩)) := by
  have he := Ext.alloc hI (.cells v.cells t) (.box t x.cells)
  have hi := Inv.alloc hI (.cells v.cells t) (.box t x.cells) ⟨v.cells.toList, alloc_new' _ _, RVs.ext he (hx.cells hu)⟩
  exact ⟨w.alloc (.cells v.cells t), _, rfl, he, hi, .ref (upd_self _ _ _) (last_get _ _)⟩
theorem good_alloc (hI : Inv β w h) {t : TypeId} {z : Value} {cs : List DV} (hz : tyZero P t = some z) (hc : vdL z.cells.toList = some cs) :
    ∃ w' β', (Instr.alloc t true (.tuple #[])).run P w = .ok (.pointer (some ⟨w.heap.size, 0, none⟩)) w' ∧ Ext β w h β' w' (h ++ [.box t cs]) ∧ Inv β' w' (h ++ [.box t cs]) ∧
      RV β' w' (h ++ [.box t cs]) (.ref h.length 0) (.pointer (some ⟨w.heap.size, 0, none⟩)) := by
  have he := Ext.alloc hI (.cells z.cells t) (.box t cs)
  have hi := Inv.alloc hI (.cells z.cells t) (.box t cs) ⟨z.cells.toList, alloc_new' _ _, (vdL_ok hc).1⟩
  refine ⟨w.alloc (.cells z.cells t), _, ?_, he, hi, .ref (upd_self _ _ _) (last_get _ _)⟩
  simp only [Instr.alloc, Sem.run_bind, run_zeroValue hz, Result.andThen_ok]
  rfl

/-! ### Stores -/
theorem setRow_only (w : World) (g : Nat) (cs : Array Value) : OnlyAt w (w.setRow g cs) g where
  os := rfl
  tape := rfl
  output := rfl
  size := by simp [World.setRow]
  block k hk := by simp [World.setRow, Array.getElem?_modify, Ne.symm hk]
theorem setRow_at (w : World) (g : Nat) (cs : Array Value) {cur : Array Value} {e : TypeId} (hg : w.heap[g]? = some (.cells cur e (0, 0))) : (w.setRow g cs).heap[g]? = some (.cells cs e (0, 0)) := by
  simp [World.setRow, Array.getElem?_modify, hg]
theorem RVs.splice {cs new : List DV} {vs nv : List Value} (h1 : RVs β w h cs vs) (h2 : RVs β w h new nv) (p : Nat) : RVs β w h (splice cs p new) (vs.take p ++ nv ++ vs.drop (p + nv.length)) := by
  unfold Proofs.YtfgnefnpfgdliaaDoor.splice
  rw [h2.len]
  exact ((h1.take p).append h2).append (h1.drop _)
theorem run_storeAt {t : TypeId} {sz : Nat} {v : Value} {b p : Nat} {cur : Array Value} {e : TypeId} (hs : tySize P t = some sz) (hv : v.cells.toList.length = sz) (h1 : ∀ u ∈ v.cells.toList, u.oneCell' = true)
    (hb : w.heap[b]? = some (.cells cur e (0, 0))) (hp : p + sz ≤ cur.size) :
    (Instr.storeAt t (.pointer (some ⟨b, p, none⟩)) v).run P w = .ok () (w.setRow b (cur.toList.take p ++ v.cells.toList ++ cur.toList.drop (p + v.cells.toList.length)).toArray) := by
  have h2 := run_storeCells_at P b p e v.cells.toList 0 cur w hb (by omega) h1
  have h3 : v.cells.size = sz := by simpa using hv
  simp only [Instr.storeAt, Instr.sureAddr, storeVar, Sem.run_bind, Sem.run_pure, Result.andThen_ok, run_sizeOf hs, h3, ne_eq, not_true_eq_false, if_false]
  simpa using h2
theorem good_store (hI : Inv β w h) {t : TypeId} {sz : Nat} {a x : DV} {va v : Value} (hs : tySize P t = some sz) (ha : RV β w h a va) (hx : RV β w h x v) (hd : stx h sz a x = some h') :
    ∃ w', (Instr.storeAt t va v).run P w = .ok () w' ∧ Ext β w h β w' h' ∧ Inv β w' h' := by
  unfold stx at hd
  split at hd
  · rename_i hc
    obtain ⟨hc1, hc2⟩ := hc
    have hu : x.isU = false := by
      cases x <;> first | rfl | (simp [DV.cells, DV.one] at hc2; done)
    have hxc := hx.cells hu
    have hvl : v.cells.toList.length = sz := by rw [← hxc.len]; exact hc1
    have hv1 : ∀ u ∈ v.cells.toList, u.oneCell' = true := by
      intro u hu
      obtain ⟨d, hd, hr⟩ := hxc.mem hu
      exact hr.one (List.all_eq_true.1 hc2 d hd)
    split at hd
    · -- a box
      rename_i o p
      cases ha with
      | ref hb ho =>
      rename_i b t' cs
      simp only [ho] at hd
      split at hd
      · rename_i hp
        injection hd with hd; subst hd
        obtain ⟨vs, h1, h2⟩ := hI.ob _ _ _ hb ho
        have hl := h2.len
        have hrun := run_storeAt (P := P) (p := p) hs hvl hv1 h1 (by simp; omega)
        have hL : Later w (w.setRow b ((vs.toArray).toList.take p ++ v.cells.toList ++ (vs.toArray).toList.drop (p + v.cells.toList.length)).toArray) b β o (h.set o (.box t' (Proofs.YtfgnefnpfgdliaaDoor.splice cs p x.cells))) (.box t' cs) :=
          ⟨hb, _, List.getElem?_set_self (hI.lt _ _ hb).1⟩
        have he := Ext.write hI hb ho (setRow_only w b _) hL (fun _ _ _ _ e => by cases e)
        refine ⟨_, hrun, he, Inv.write hI hb (setRow_only w b _) he ⟨_, setRow_at w b _ h1, ?_⟩⟩
        exact (RVs.ext he h2).splice (RVs.ext he hxc) p
      · cases hd
    · -- an element of a row
      rename_i o g lo n c sz' i p
      cases ha with
      | elem hd0 hi =>
      rename_i A n' cap
      cases hd0 with
      | row hb hcap hcc ho hg hs' =>
      rename_i a b e sz0 g0 xs0
      cases hx0 : h[o]? with
      | none => rw [hx0] at hd; cases hd
      | some y =>
        rw [hx0] at hd
        cases y with
        | box _ _ => cases hd
        | frz _ _ _ _ => cases hd
        | map _ _ _ => cases hd
        | row e' sz'' g' xs =>
          simp only at hd
          split at hd
          · rename_i hq
            obtain ⟨q1, q2, q3, q4⟩ := hq
            subst q1; subst q2
            have hrow : e' = e ∧ sz'' = sz0 ∧ g' = g0 ∧ xs = xs0 := by
              rcases ho with ho | ho
              · rw [hx0] at ho; injection ho with ho; injection ho with k1 k2 k3 k4; exact ⟨k1, k2, k3, k4⟩
              · rw [hx0] at ho; cases ho
            obtain ⟨rfl, rfl, rfl, rfl⟩ := hrow
            obtain ⟨k1, k2, k3⟩ := hs' rfl
            have ha := k2 (by omega)
            subst ha
            cases hxi : xs[lo + i]? with
            | none => rw [hxi] at hd; cases hd
            | some y =>
              rw [hxi] at hd
              simp only at hd
              cases hep : eput y p x with
              | none => rw [hep] at hd; cases hd
              | some y' =>
                rw [hep] at hd
                injection hd with hd; subst hd
                obtain ⟨cur, C, h1, h2, h3, h4, h5, h6, h7⟩ := hI.ob _ _ _ hb hx0
                have hw : ∀ x ∈ xs, x.cells.length = sz'' := fun x hx => (h6 x hx).1
                have hil : lo + i < xs.length := (List.getElem?_eq_some_iff.1 hxi).1
                have hyc := h6 y (List.mem_of_getElem? hxi)
                -- the new element's cells
                have hy' : y'.cells = Proofs.YtfgnefnpfgdliaaDoor.splice y.cells p x.cells ∧ p + x.cells.length ≤ sz'' := by
                  unfold eput at hep
                  cases y with
                  | agg cs =>
                    simp only at hep
                    split at hep
                    · rename_i hl; injection hep with hep; subst hep
                      exact ⟨rfl, by rw [← hyc.1]; exact hl⟩
                    · cases hep
                  | _ =>
                    simp only at hep
                    split at hep
                    · rename_i hl; injection hep with hep; subst hep
                      obtain ⟨rfl, hone⟩ := hl
                      have hxl : x.cells = [x] := by cases x <;> first | rfl | (simp [DV.one] at hone; done)
                      have h1l : sz'' = 1 := by rw [← hyc.1]; rfl
                      rw [hxl]
                      exact ⟨rfl, by rw [h1l]; simp⟩
                    · cases hep
                obtain ⟨hy1, hy2⟩ := hy'
                have hylen : y.cells.length = sz'' := hyc.1
                -- the row's cells
                have hflat := flat_set hy1 hy2 (lo + i) hw hxi
                have hlf := flat_length hw
                have hmul : (lo + i) * sz'' + sz'' ≤ xs.length * sz'' := by rw [← Nat.succ_mul]; exact Nat.mul_le_mul_right _ hil
                have hpos : lo * sz'' + (i * sz'' + p) = (lo + i) * sz'' + p := by rw [Nat.add_mul]; omega
                have hCs : xs.length * sz'' ≤ C * sz'' := Nat.mul_le_mul_right _ h3
                have hrun := run_storeAt (P := P) (w := w) (p := (lo + i) * sz'' + p) hs hvl hv1 h1 (by rw [h2]; omega)
                generalize hcur' : (cur.toList.take ((lo + i) * sz'' + p) ++ v.cells.toList ++ cur.toList.drop ((lo + i) * sz'' + p + v.cells.toList.length)).toArray = cur' at hrun
                have hcs' : cur'.size = cur.size := by
                  rw [← hcur']
                  simp only [List.size_toArray, List.length_append, List.length_take, List.length_drop, Array.length_toList]
                  have hvs : v.cells.size = sz := by simpa using hvl
                  omega
                have hb' := setRow_at w b cur' h1
                have hlt := (hI.lt _ _ hb).1
                have hL : Later w (w.setRow b cur') b β o (h.set o (.row e' sz'' g' (xs.set (lo + i) y'))) (.row e' sz'' g' xs) :=
                  ⟨b, g', _, hb, .inl (List.getElem?_set_self hlt), Nat.le_refl _, fun _ => ⟨rfl, by simp, fun c0 hc0 => ⟨cur', hb', by rw [h1] at hc0; injection hc0 with hc0; injection hc0 with hc0; rw [hcs', hc0]⟩⟩⟩
                have he := Ext.write hI hb hx0 (setRow_only w b cur') hL (fun _ _ _ _ e => by cases e)
                refine ⟨w.setRow b cur', ?_, he, Inv.write hI hb (setRow_only w b cur') he ⟨cur', C, hb', hcs'.trans h2, by simpa using h3, h4, h5, ?_, ?_⟩⟩
                · rw [← hrun, add_p, hpos]
                · intro z hz
                  rcases List.mem_or_eq_of_mem_set hz with hz | rfl
                  · exact h6 z hz
                  · refine ⟨?_, fun c hc => ?_⟩
                    · rw [hy1, Proofs.YtfgnefnpfgdliaaDoor.splice]
                      simp only [List.length_append, List.length_take, List.length_drop, hylen]
                      omega
                    · rw [hy1, Proofs.YtfgnefnpfgdliaaDoor.splice] at hc
                      rcases List.mem_append.1 hc with hc | hc
                      · rcases List.mem_append.1 hc with hc | hc
                        · exact hyc.2 c (List.mem_of_mem_take hc)
                        · exact List.all_eq_true.1 hc2 c hc
                      · exact hyc.2 c (List.mem_of_mem_drop hc)
                · rw [hflat]
                  have h8 := (RVs.ext he h7).splice (RVs.ext he hxc) ((lo + i) * sz'' + p)
                  have h9 : (cur.toList.take (xs.length * sz'')).take ((lo + i) * sz'' + p) ++ v.cells.toList ++ (cur.toList.take (xs.length * sz'')).drop ((lo + i) * sz'' + p + v.cells.toList.length) = cur'.toList.take ((xs.set (lo + i) y').length * sz'') := by
                    rw [← hcur', List.length_set]
                    simp only [List.toList_toArray]
                    rw [List.take_take, Nat.min_eq_left (by omega), List.drop_take]
                    rw [List.take_append, List.take_append]
                    have q1 : (cur.toList.take ((lo + i) * sz'' + p)).length = (lo + i) * sz'' + p := by rw [List.length_take, Array.length_toList]; omega
                    rw [List.take_of_length_le (by omega : (cur.toList.take ((lo + i) * sz'' + p)).length ≤ xs.length * sz''), q1, List.take_of_length_le (by omega : v.cells.toList.length ≤ xs.length * sz'' - ((lo + i) * sz'' + p))]
                    congr 2
                    rw [List.length_append, q1]
                  rw [← h9]
                  exact h8
          · cases hd
    · cases hd
  · cases hd
end
end Go.Proofs.YtfgnefnpfgdliaaDoor
