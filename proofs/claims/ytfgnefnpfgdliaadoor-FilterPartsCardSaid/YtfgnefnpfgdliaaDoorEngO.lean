/- One operation, calls too; what an operation looks at; heaps that grow. -/
import Derived.Test.YtfgnefnpfgdliaaDoorEngN
namespace Go.Proofs.YtfgnefnpfgdliaaDoor
open Go.RowKit
set_option linter.unusedVariables false
set_option linter.unusedSimpArgs false

def CallOk (P : Program) (call : CallF) : Prop := ∀ f args h d h' β w vs, call f args h = some (d, h') → Inv β w h → RVs β w h args vs →
  (callFunc f vs.toArray).run P w = .ok (.enter f vs.toArray) w ∧
  Calls P f vs.toArray w (fun e w' => ∃ v β', e = .returned v ∧ Ext β w h β' w' (mat d h').2 ∧ Inv β' w' (mat d h').2 ∧ RV β' w' (mat d h').2 (mat d h').1 v)

section
variable {P : Program} {β β' : Bm} {w w' : World} {h h' : Heap}

theorem cv_call {op : Op} {f : Od} {as : List Od} (hx : cvOp P op = some (.call f as)) : ∃ c cf, op = .call c ∧ c.callee = .value cf ∧ cvO cf = some f ∧ cvL c.args.toList = some as := by
  cases op with
  | call c =>
    simp only [cvOp] at hx
    unfold cvCall at hx
    split at hx
    · rename_i cf hcal
      split at hx
      · rename_i h1 h2
        injection hx with hx
        injection hx with hx1 hx2
        subst hx1; subst hx2
        exact ⟨c, cf, rfl, hcal, h1, h2⟩
      · cases hx
    all_goals (repeat' split at hx) <;> cases hx
  | _ =>
    exfalso
    simp only [cvOp] at hx
    revert hx
    repeat' split
    all_goals first | (simp; done) | (rename_i hq; cases hq)
theorem cv_alloc {op : Op} {t : Nat} {cs : List DV} (hx : cvOp P op = some (.alloc t cs)) : ∃ z, op = .alloc t ∧ tyZero P t = some z ∧ vdL z.cells.toList = some cs := by
  cases op with
  | alloc t0 =>
    simp only [cvOp] at hx
    split at hx
    · rename_i z hz
      split at hx
      · rename_i cs0 hcs
        injection hx with hx
        injection hx with h1 h2
        subst h1; subst h2
        exact ⟨z, rfl, hz, hcs⟩
      · cases hx
    · cases hx
  | call c =>
    exfalso
    simp only [cvOp] at hx
    unfold cvCall at hx
    revert hx
    repeat' split
    all_goals first | (intro h; cases h; done) | (intro h; injection h with h; cases h; done) | (simp; done) | (intro h; contradiction)
  | _ =>
    exfalso
    simp only [cvOp] at hx
    revert hx
    repeat' split
    all_goals first | (intro h; cases h; done) | (intro h; injection h with h; cases h; done) | (simp; done) | (intro h; contradiction)
/-- A box that had no block yet is made. -/
theorem good_late (hI : Inv β w h) {a : Act} {o : Oper} {t : Nat} {cs : List DV} (hx : cvOp P o.op = some (.alloc t cs)) {k : Nat} (hk : β k = none) (hb : h[k]? = some (.box t cs))
    {K : Act → World → Prop} {Q : Exit → Act → World → Prop} (hK : ∀ us, Inv (upd β k w.heap.size) (w.alloc (.cells us t)) h → K (a.put o.dst (.pointer (some ⟨w.heap.size, 0, none⟩))) (w.alloc (.cells us t))) : o.wp P a w K Q := by
  obtain ⟨z, hop, hz, hcs⟩ := cv_alloc hx
  have hrun : (Instr.alloc t true (.tuple #[])).run P w = .ok (.pointer (some ⟨w.heap.size, 0, none⟩)) (w.alloc (.cells z.cells t)) := by
    simp only [Instr.alloc, Sem.run_bind, run_zeroValue hz, Result.andThen_ok]
    rfl
  have hex : (execOp a.eval o).run P w = .ok (.value (.pointer (some ⟨w.heap.size, 0, none⟩))) (w.alloc (.cells z.cells t)) := by
    unfold execOp
    rw [hop]
    show (do pure (Next.value (← Instr.alloc t true (.tuple #[]))) : Sem Next).run P w = _
    rw [Sem.run_bind, hrun]; rfl
  unfold Oper.wp
  rw [hex]
  exact hK _ (Inv.fill hI hk hb (fun β' w' => (vdL_ok hcs).1))
theorem good_step {call : CallF} (hc : CallOk P call) (hI : Inv β w h) {e : Env} {a : Act} (hE : ER β w h e a) {o : Oper} {x : XOp} {d : DV} (hx : cvOp P o.op = some x) (hd : evTo call x e h = some (d, h'))
    {K : Act → World → Prop} {Q : Exit → Act → World → Prop} (hK : ∀ v w' β', Ext β w h β' w' h' → Inv β' w' h' → RV β' w' h' d v → K (a.put o.dst v) w') : o.wp P a w K Q := by
  unfold evTo at hd
  split at hd
  · rename_i f args hi
    split at hd
    · rename_i k fa fb hf
      rw [Option.map_eq_some_iff] at hd
      obtain ⟨⟨r, hr⟩, hcall, hmat⟩ := hd
      simp only at hmat
      cases x <;> simp only [isCall] at hi <;> try cases hi
      obtain ⟨c, cf, hop, hcal, h1, h2⟩ := cv_call hx
      have c1 := cvO_ok hE h1
      have c2 := cvL_ok hE h2
      rw [hf] at c1
      generalize hv : a.eval cf = v at c1
      cases c1 with
      | func ha hb =>
        rename_i va vb
        have hargs := (ha.append c2).append hb
        obtain ⟨hrun, hC⟩ := hc _ _ _ _ _ _ _ _ hcall hI hargs
        have hvs : va.toArray ++ c.args.map a.eval ++ vb.toArray = (va ++ c.args.toList.map a.eval ++ vb).toArray := by
          apply Array.ext'; simp
        have hex : (execOp a.eval o).run P w = .ok (.enter k (va ++ c.args.toList.map a.eval ++ vb).toArray) w := by
          unfold execOp
          simp only [hop, resolve, hcal, hv, Deferred.ofValue, Sem.run_bind, Sem.run_pure, Result.andThen_ok, invoke]
          rw [hvs]
          exact hrun
        unfold Oper.wp
        rw [hex, Oper.upon_enter]
        refine hC.mono ?_
        rintro en w' ⟨v, β', rfl, q1, q2, q3⟩
        rw [hmat] at q1 q2 q3
        exact hK v w' β' q1 q2 q3
    · cases hd
  · rename_i hi
    obtain ⟨v, w', β', hdid, q1, q2, q3⟩ := evx_good hI hE hx hi hd
    unfold Oper.wp
    rcases hdid with hdid | ⟨hdid, rfl⟩
    · rw [hdid]; exact hK v w' β' q1 q2 q3
    · rw [hdid]; exact hK _ w' β' q1 q2 q3

/-! ### What an operation looks at -/
theorem od_congr {e e' : Env} {o : Od} (h : ∀ s ∈ odS o, lk e s = lk e' s) : o.v e = o.v e' := by
  cases o with
  | t n => exact h n (by simp [odS])
  | c d => rfl
theorem odL_congr {e e' : Env} {l : List Od} (h : ∀ s ∈ l.flatMap odS, lk e s = lk e' s) : l.map (Od.v e) = l.map (Od.v e') :=
  List.map_congr_left fun o ho => od_congr fun s hs => h s (List.mem_flatMap.2 ⟨o, ho, hs⟩)
theorem intAt_congr {e e' : Env} {d : Nat} {o : Option Od} (h : ∀ s ∈ odO o, lk e s = lk e' s) : intAt e d o = intAt e' d o := by
  cases o with
  | none => rfl
  | some o => simp only [intAt, od_congr h]
theorem cutx_congr {e e' : Env} {m : Nat} {o : Option Od} (h : ∀ s ∈ odO o, lk e s = lk e' s) : cutx e m o = cutx e' m o := by
  cases o with
  | none => rfl
  | some o => simp only [cutx, intAt_congr (o := some o) h]
theorem evx_congr {x : XOp} {e e' : Env} {h : Heap} (hs : ∀ s ∈ x.sl, lk e s = lk e' s) : evx x e h = evx x e' h := by
  cases x <;> simp only [XOp.sl, List.mem_append] at hs <;> simp only [evx]
  case pick a b c => rw [od_congr (o := a) (fun s h => hs s (.inl (.inl h))), od_congr (o := b) (fun s h => hs s (.inl (.inr h))), od_congr (o := c) (fun s h => hs s (.inr h))]
  case build z ps =>
    have : (ps.map fun p => (p.1, p.2.1, p.2.2.v e)) = ps.map fun p => (p.1, p.2.1, p.2.2.v e') :=
      List.map_congr_left fun p hp => by rw [od_congr (o := p.2.2) (fun s h => hs s (List.mem_flatMap.2 ⟨p, hp, h⟩))]
    rw [this]
  case mkslice ro t sz ps => rw [odL_congr hs]
  case mkfn f a b => rw [odL_congr (l := a) (fun s h => hs s (.inl h)), odL_congr (l := b) (fun s h => hs s (.inr h))]
  case mmx m xs => rw [odL_congr hs]
  case slcs x a b => rw [od_congr (o := x) (fun s h => hs s (.inl (.inl h))), intAt_congr (o := a) (fun s h => hs s (.inl (.inr h)))]; simp only [intAt_congr (o := b) (fun s h => hs s (.inr h))]
  case slc sz x a b c =>
    rw [od_congr (o := x) (fun s h => hs s (.inl (.inl (.inl h)))), intAt_congr (o := a) (fun s h => hs s (.inl (.inl (.inr h))))]
    simp only [intAt_congr (o := b) (fun s h => hs s (.inl (.inr h))), cutx_congr (o := c) (fun s h => hs s (.inr h))]
  case mkmap r =>
    cases r with
    | none => rfl
    | some o =>
      have : hintOk e (some o) = hintOk e' (some o) := by simp only [hintOk]; rw [od_congr (o := o) (fun s h => hs s h)]
      rw [this]
  case mget ag ks z ok x y => simp only [od_congr (o := x) (fun s h => hs s (.inl h)), od_congr (o := y) (fun s h => hs s (.inr h))]
  case mset ag ks x y z => rw [od_congr (o := x) (fun s h => hs s (.inl (.inl h))), od_congr (o := y) (fun s h => hs s (.inl (.inr h))), od_congr (o := z) (fun s h => hs s (.inr h))]
  all_goals first
    | rfl
    | (rename_i x; rw [od_congr (o := x) hs]; done)
    | (rename_i x y; rw [od_congr (o := x) (fun s h => hs s (.inl h)), od_congr (o := y) (fun s h => hs s (.inr h))]; done)
    | (rename_i x y; simp only [od_congr (o := x) (fun s h => hs s (.inl h)), od_congr (o := y) (fun s h => hs s (.inr h))]; done)
    | (rename_i x _; rw [od_congr (o := x) hs]; done)
theorem evTo_congr {call : CallF} {x : XOp} {e e' : Env} {h : Heap} (hs : ∀ s ∈ x.sl, lk e s = lk e' s) : evTo call x e h = evTo call x e' h := by
  unfold evTo
  split
  · rename_i f args hi
    cases x <;> simp only [isCall] at hi <;> try cases hi
    simp only [XOp.sl, List.mem_append] at hs
    rw [od_congr (o := f) (fun s h => hs s (.inl h)), odL_congr (l := args) (fun s h => hs s (.inr h))]
  · exact evx_congr hs
end
end Go.Proofs.YtfgnefnpfgdliaaDoor
