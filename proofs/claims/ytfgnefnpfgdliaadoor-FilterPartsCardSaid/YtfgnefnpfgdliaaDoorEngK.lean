/- Slice literals, make, append. -/
import Derived.Test.YtfgnefnpfgdliaaDoorEngJ
import Derived.Laws.MakeOwn
import Derived.Laws.AppendOwn
import Derived.Deep.AppendSrc
namespace Go.Proofs.YtfgnefnpfgdliaaDoor
open Go.RowKit
set_option linter.unusedVariables false
set_option linter.unusedSimpArgs false

section
variable {P : Program} {β β' : Bm} {w w' : World} {h h' : Heap}

theorem RVs.flat : ∀ {ds : List DV} {vs : List Value}, RVs β w h ds vs → (∀ d ∈ ds, d.isU = false) → RVs β w h (flat ds) (vs.flatMap fun v => v.cells.toList)
  | [], _, hr, _ => by cases hr; exact .nil
  | d :: ds, _, hr, hu => by
    cases hr with
    | cons hd hs =>
      simp only [Proofs.YtfgnefnpfgdliaaDoor.flat, List.flatMap_cons]
      exact (hd.cells (hu d (by simp))).append (RVs.flat hs (fun x hx => hu x (by simp [hx])))
theorem Wc.noU {sz : Nat} {x : DV} (h : Wc sz x) : x.isU = false := by
  cases x <;> try rfl
  have := h.2 .undef (by simp [DV.cells])
  cases this
theorem RVs.of_get : ∀ {ds : List DV} {vs : List Value}, ds.length = vs.length → (∀ (i : Nat) d v, ds[i]? = some d → vs[i]? = some v → RV β w h d v) → RVs β w h ds vs
  | [], [], _, _ => .nil
  | [], _ :: _, hl, _ => by simp at hl
  | _ :: _, [], hl, _ => by simp at hl
  | d :: ds, v :: vs, hl, hg => .cons (hg 0 d v rfl rfl) (RVs.of_get (by simpa using hl) (fun i a b ha hb => hg (i + 1) a b (by simpa using ha) (by simpa using hb)))

/-! ### Slice literals -/
theorem fill_order (a : Act) (sz : Nat) : ∀ (ps : List (Nat × Operand)) (k : Nat) {xs : List Operand} (cs : Array Value), inOrder ps k = some xs → (∀ x ∈ xs, (a.eval x).cells.toList.length = sz) → (k + xs.length) * sz ≤ cs.size →
    ∃ us, Instr.fill (fun i => some (i * sz, sz)) cs (ps.map fun (i, x) => (i, a.eval x)) = some us ∧ us.toList = cs.toList.take (k * sz) ++ (xs.flatMap fun x => (a.eval x).cells.toList) ++ cs.toList.drop ((k + xs.length) * sz)
  | [], k, xs, cs, ho, _, _ => by
    simp [inOrder] at ho; subst ho
    exact ⟨cs, rfl, by simp⟩
  | (i, x) :: ps, k, xs, cs, ho, hw, hl => by
    unfold inOrder at ho
    split at ho
    · rename_i hk
      subst hk
      split at ho
      · rename_i r hr
        injection ho with ho; subst ho
        have hx := hw x (by simp)
        have hsz : (a.eval x).cells.size = sz := by simpa using hx
        have hkk : i * sz + sz ≤ cs.size := by
          have : (i + (r.length + 1)) * sz = i * sz + sz + r.length * sz := by rw [Nat.add_mul, Nat.succ_mul]; omega
          simp only [List.length_cons] at hl
          rw [this] at hl; omega
        have hset : (((a.eval x).cells.zipIdx).foldl (fun (cs : Array Value) (p : Value × Nat) => cs.setIfInBounds (i * sz + p.2) p.1) cs).toList = cs.toList.take (i * sz) ++ (a.eval x).cells.toList ++ cs.toList.drop ((i + 1) * sz) := by
          rw [← Array.foldl_toList, zipIdx_toList]
          have := foldset (i * sz) (a.eval x).cells.toList 0 cs (by simp; omega)
          rw [this, hx, Nat.succ_mul]
          simp
        obtain ⟨us, h1, h2⟩ := fill_order a sz ps (i + 1) (((a.eval x).cells.zipIdx).foldl (fun (cs : Array Value) (p : Value × Nat) => cs.setIfInBounds (i * sz + p.2) p.1) cs) hr (fun y hy => hw y (by simp [hy])) (by
          have : ((((a.eval x).cells.zipIdx).foldl (fun (cs : Array Value) (p : Value × Nat) => cs.setIfInBounds (i * sz + p.2) p.1) cs)).size = cs.size := by
            rw [← Array.length_toList, hset, List.length_append, List.length_append, List.length_take, List.length_drop, hx, Array.length_toList, Nat.succ_mul]; omega
          rw [this]
          simp only [List.length_cons] at hl
          rw [show i + 1 + r.length = i + (r.length + 1) by omega]; exact hl)
        refine ⟨us, ?_, ?_⟩
        · simp only [List.map_cons, Instr.fill]
          have hng : ¬ ((a.eval x).cells.size ≠ sz || decide (i * sz + (a.eval x).cells.size > cs.size)) = true := by simp [hsz]; omega
          rw [if_neg hng]
          exact h1
        · rw [h2, hset]
          have e1 : (cs.toList.take (i * sz)).length = i * sz := by rw [List.length_take, Array.length_toList]; omega
          have e2 : (cs.toList.take (i * sz) ++ (a.eval x).cells.toList).length = (i + 1) * sz := by rw [List.length_append, e1, hx, Nat.succ_mul]
          rw [List.take_append_of_le_length (by omega), List.take_of_length_le (by omega)]
          rw [show (i + 1 + r.length) * sz = (cs.toList.take (i * sz) ++ (a.eval x).cells.toList).length + r.length * sz by rw [e2, Nat.add_mul]]
          rw [List.drop_length_add_append, List.drop_drop, List.flatMap_cons, List.length_cons]
          rw [show (i + 1) * sz + r.length * sz = (i + (r.length + 1)) * sz by rw [← Nat.add_mul]; congr 1; omega]
          simp only [List.append_assoc]
      · cases ho
    · cases ho

theorem away_new (hI : Inv β w h) {b : Nat} (hb : w.heap.size ≤ b) : Away β h b := fun o ho => by have := (hI.lt o b ho).2; omega
theorem cellsAt_new (hI : Inv β w h) {w' : World} {cs : Array Value} {e b : Nat} (hb : w.heap.size ≤ b) (hc : w'.heap[b]? = some (.cells cs e (0, 0))) (vs : List Value) (p : Nat) (hv : ∀ j v, vs[j]? = some v → cs[p + j]? = some v) : CellsAt β w' h ⟨b, p, none⟩ vs := by
  intro j v hj
  refine ⟨away_new hI hb, ?_⟩
  rw [add_p, cell_of_row w' b _ cs e (0, 0) hc]
  exact hv j v hj

theorem good_mkslice (hI : Inv β w h) {e : Env} {a : Act} (hE : ER β w h e a) {ro : Bool} {t et : TypeId} {sz n : Nat} {z : Value} {ps : Array (Nat × Operand)} {xs : List Operand} {os : List Od} {d : DV} (ht : P.underlying t = some (.slice et))
    (ho : inOrder ps.toList 0 = some xs) (hs : tySize P et = some sz) (hz : tyZero P et = some z) (hc : cvL xs = some os) (hn : n * sz ≤ 16777216) (hl : os.length = n) (h0 : 0 < sz) (hzs : z.cells.size = sz)
    (hd : evx (.mkslice ro et sz os) e h = some (d, h')) : ∃ v w' β', (Instr.buildSlice t n (ps.map fun (i, x) => (i, a.eval x))).run P w = .ok v w' ∧ Ext β w h β' w' h' ∧ Inv β' w' h' ∧ RV β' w' h' d v := by
  have hxl : xs.length = os.length := by have := (cvL_ok hE hc).len; simpa using this.symm
  simp only [evx] at hd
  cases hel : eltL (os.map (Od.v e)) h with
  | none => rw [hel] at hd; cases hd
  | some p =>
    obtain ⟨ds, h1⟩ := p
    rw [hel] at hd
    simp only at hd
    split at hd
    · rename_i hw
      obtain ⟨hE1, hI1, hR1⟩ := good_eltL hI (cvL_ok hE hc) hel
      have hdl := hR1.len
      rw [List.length_map] at hdl
      have hcl : ∀ x ∈ xs, (a.eval x).cells.toList.length = sz := by
        intro x hx
        obtain ⟨d, hd, hr⟩ := hR1.mem (List.mem_map.2 ⟨x, hx, rfl⟩)
        have := (hr.cells (hw d hd).noU).len
        rw [← this]; exact (hw d hd).1
      have hzero : ∀ w, (if n * sz = 0 then pure #[] else do pure (← zeroValue et).cells : Sem (Array Value)).run P w = .ok (if n * sz = 0 then #[] else z.cells) w := by
        intro w
        split
        · rfl
        · simp [run_zeroValue hz]
      obtain ⟨us, hf, hu⟩ := fill_order a sz ps.toList 0 ((Array.range (n * sz)).map ((if n * sz = 0 then #[] else z.cells)[· % (if n * sz = 0 then #[] else z.cells).size]!)) ho hcl (by simp [hxl, hl])
      have hus : us.toList = xs.flatMap fun x => (a.eval x).cells.toList := by rw [hu]; simp [hxl, hl]
      have hrf : RVs β w h1 (Proofs.YtfgnefnpfgdliaaDoor.flat ds) us.toList := by
        have := hR1.flat (fun d hd => (hw d hd).noU)
        rw [hus]
        rw [List.flatMap_map] at this
        exact this
      have hlen : us.size = n * sz := by
        have h3 := hrf.len
        rw [flat_length (fun x hx => (hw x hx).1), hdl, hxl, hl] at h3
        simpa using h3.symm
      have hrun : (Instr.buildSlice t n (ps.map fun (i, x) => (i, a.eval x))).run P w = .ok (.slice (some ⟨w.heap.size, 0, none⟩) n n) (w.alloc (.cells us et)) := by
        unfold Instr.buildSlice
        have hn' : ¬ n * sz > 2 ^ 24 := by omega
        rw [Sem.run_bind, run_underlying ht]
        simp only [Result.andThen_ok]
        rw [Sem.run_bind, run_sizeOf hs]
        simp only [Result.andThen_ok]
        rw [if_neg hn']
        have hf' : Instr.fill (fun i => some (i * sz, sz)) ((Array.range (n * sz)).map ((if n * sz = 0 then #[] else z.cells)[· % (if n * sz = 0 then #[] else z.cells).size]!)) (ps.map fun (i, x) => (i, a.eval x)).toList = some us := by
          rw [Array.toList_map]; exact hf
        split
        · rename_i hq
          rw [if_pos hq] at hf'
          rw [Sem.run_bind]
          simp only [Sem.run_pure, Result.andThen_ok]
          rw [hf']
          rfl
        · rename_i hq
          rw [if_neg hq] at hf'
          rw [Sem.run_bind, run_zeroValue hz]
          simp only [Sem.run_bind, Sem.run_pure, Result.andThen_ok]
          rw [hf']
          rfl
      have hnl : n = ds.length := by omega
      have hmax : n ≤ maxLen := by
        have h2 : n * 1 ≤ n * sz := Nat.mul_le_mul_left n h0
        have : (16777216 : Nat) ≤ maxLen := by decide
        omega
      split at hd
      · rename_i hro
        split at hd
        · rename_i hnr
          simp only [Option.some.injEq, Prod.mk.injEq] at hd
          obtain ⟨rfl, rfl⟩ := hd
          refine ⟨_, _, β, hrun, Ext.trans hI hE1 (Ext.alloc0 hI1 _), Inv.alloc0 hI1 _, ?_⟩
          exact .list hnl (Nat.le_refl _) (fun _ => rfl) hnr hw (RVs.ext (Ext.alloc0 hI1 _) hrf) (cellsAt_new hI1 (Nat.le_refl _) (alloc_new' _ _) _ 0 (fun j v hj => by simpa using hj))
        · cases hd
      · simp only [Option.some.injEq, Prod.mk.injEq] at hd
        obtain ⟨rfl, rfl⟩ := hd
        have he2 := Ext.alloc hI1 (.cells us et) (.row et sz 0 ds)
        have hi2 := Inv.alloc hI1 (.cells us et) (.row et sz 0 ds) ⟨us, n, alloc_new' _ _, hlen, by omega, hmax, h0, hw, by
          rw [List.take_of_length_le (by rw [Array.length_toList, hlen, hnl]; exact Nat.le_refl _)]
          exact RVs.ext he2 hrf⟩
        refine ⟨_, _, _, hrun, Ext.trans hI hE1 he2, hi2, ?_⟩
        rw [← hnl]
        exact .row (upd_self _ _ _) (Nat.le_refl _) (fun h => by cases h) (.inl (last_get _ _)) (Nat.le_refl _) (fun _ => ⟨by omega, fun _ => by simp, fun _ => ⟨rfl, fun _ _ => ⟨us, alloc_new' _ _, hlen⟩⟩⟩)
    · cases hd

/-! ### make -/
theorem madeCells_rvs {z : Value} {d : DV} {sz : Nat} (hr : RV β w h d z) (hw : Wc sz d) (h0 : 0 < sz) (a c : Nat) (hac : a ≤ c) : RVs β w h (flat (List.replicate a d)) ((madeCells z.cells (c * sz)).toList.take (a * sz)) := by
  have hzr := hr.cells hw.noU
  have hzs : z.cells.toList.length = sz := by rw [← hzr.len]; exact hw.1
  have hac' : a * sz ≤ c * sz := Nat.mul_le_mul_right _ hac
  have hfl : (flat (List.replicate a d)).length = a * sz := by rw [flat_length (sz := sz) (fun x hx => by rw [List.eq_of_mem_replicate hx]; exact hw.1)]; simp
  refine RVs.of_get (by rw [hfl, List.length_take, Array.length_toList, size_madeCells]; omega) (fun i x v hx hv => ?_)
  have hi : i < a * sz := by have := (List.getElem?_eq_some_iff.1 hx).1; omega
  have hm : i % sz < sz := Nat.mod_lt _ h0
  have hq : i / sz < a := (Nat.div_lt_iff_lt_mul h0).2 hi
  have hg := flat_get (sz := sz) (xs := List.replicate a d) (i / sz) (i % sz) (x := d) (fun x hx => by rw [List.eq_of_mem_replicate hx]; exact hw.1) (by rw [List.getElem?_replicate, if_pos hq]) hm
  rw [show i / sz * sz + i % sz = i by rw [Nat.mul_comm]; exact Nat.div_add_mod i sz, hx] at hg
  rw [List.getElem?_take, if_pos hi] at hv
  have hzs' : z.cells.size = sz := by simpa using hzs
  have hv2 : v = z.cells[i % sz]! := by
    have : (madeCells z.cells (c * sz)).toList[i]? = some (z.cells[i % z.cells.size]!) := by
      rw [Array.getElem?_toList]
      simp only [madeCells, Array.getElem?_map]
      rw [Array.getElem?_range, if_pos (by omega : i < c * sz)]
      rfl
    rw [this] at hv
    injection hv with hv
    rw [hzs'] at hv
    exact hv.symm
  obtain ⟨u, hu, hru⟩ := hzr.get hg.symm
  rw [Array.getElem?_toList] at hu
  have : z.cells[i % sz]! = u := by
    rw [Array.getElem?_eq_some_iff] at hu
    obtain ⟨hlt, he⟩ := hu
    rw [getElem!_pos z.cells (i % sz) hlt, he]
  rw [hv2, this]
  exact hru
theorem good_make (hI : Inv β w h) {t et : TypeId} {i : TypeInfo} {z : Value} {zd : DV} {a c : Int} {ka kc : IntKind} (ht : P.underlying t = some (.slice et)) (hi : P.info? et = some i) (hz : i.zero = some z) (hzd : vd z = some zd)
    (hs0 : 0 < i.size) (hb0 : 0 < i.bytes) (ha : 0 ≤ a) (hac : a ≤ c) (hfit : c * i.bytes ≤ 140737488355328) (hw : Wc i.size zd) :
    ∃ v w' β', (Instr.makeSlice t (.int ka a) (.int kc c)).run P w = .ok v w' ∧ Ext β w h β' w' (h ++ [.row et i.size 0 (List.replicate a.toNat zd)]) ∧ Inv β' w' (h ++ [.row et i.size 0 (List.replicate a.toNat zd)]) ∧
      RV β' w' (h ++ [.row et i.size 0 (List.replicate a.toNat zd)]) (.row h.length 0 0 a.toNat false) v := by
  have hc1 : c ≤ c * i.bytes := by
    have h1 : c * 1 ≤ c * (i.bytes : Int) := Int.mul_le_mul_of_nonneg_left (by omega) (by omega)
    omega
  have hrun := run_make (P := P) w t et i z ht hi hz ka kc a c ha hac (by rw [Int.mul_comm]; omega) (by omega)
  have he2 := Ext.alloc hI (.cells (madeCells z.cells (c.toNat * i.size)) et) (.row et i.size 0 (List.replicate a.toNat zd))
  have hi2 := Inv.alloc hI (.cells (madeCells z.cells (c.toNat * i.size)) et) (.row et i.size 0 (List.replicate a.toNat zd)) ⟨_, c.toNat, alloc_new' _ _, size_madeCells _ _, by simp; omega, by simp [maxLen]; omega, hs0,
    fun x hx => by rw [List.eq_of_mem_replicate hx]; exact hw, by rw [List.length_replicate]; exact madeCells_rvs (vd_ok hzd).1 hw hs0 _ _ (by omega)⟩
  refine ⟨_, _, _, hrun, he2, hi2, ?_⟩
  exact .row (upd_self _ _ _) (by omega) (fun h => by cases h) (.inl (last_get _ _)) (Nat.le_refl _) (fun _ => ⟨by simp, fun _ => by simp, fun _ => ⟨rfl, fun _ _ => ⟨_, alloc_new' _ _, size_madeCells _ _⟩⟩⟩)
end
end Go.Proofs.YtfgnefnpfgdliaaDoor
