/- Every operation that is no call of a function does what the ideal machine says. -/
import Derived.Test.YtfgnefnpfgdliaaDoorEngLm
namespace Go.Proofs.YtfgnefnpfgdliaaDoor
open Go.RowKit
set_option linter.unusedVariables false
set_option linter.unusedSimpArgs false

section
variable {P : Program} {β β' : Bm} {w w' : World} {h h' : Heap}

theorem Good.v (hI : Inv β w h) {s : Sem Value} {d : DV} (hs : ∃ v, s.run P w = .ok v w ∧ RV β w h d v) : Good P β w h (do pure (.value (← s))) d h := by
  obtain ⟨v, h1, h2⟩ := hs
  exact Good.quiet hI (by rw [Sem.run_bind, h1]; rfl) h2
theorem Good.val {s : Sem Value} {d : DV} (hs : ∃ v w' β', s.run P w = .ok v w' ∧ Ext β w h β' w' h' ∧ Inv β' w' h' ∧ RV β' w' h' d v) : Good P β w h (do pure (.value (← s))) d h' := by
  obtain ⟨v, w', β', h1, h2, h3, h4⟩ := hs
  exact ⟨v, w', β', .inl (by rw [Sem.run_bind, h1]; rfl), h2, h3, h4⟩
theorem run_callB {a : Act} {o : Oper} {c : Call} {b : Builtin} (ho : o.op = .call c) (hb : c.callee = .builtin b) :
    (execOp a.eval o).run P w = (builtin b c.argTypes o.type (c.args.map fun | .const _ => true | _ => false) (c.args.map a.eval)).run P w := by
  unfold execOp
  simp only [ho, resolve, hb]
  rfl
theorem arr1 {α : Type} {a : Array α} {x : α} (h : a.toList = [x]) : a = #[x] := by
  apply Array.ext'; simpa using h
theorem arr2 {α : Type} {a : Array α} {x y : α} (h : a.toList = [x, y]) : a = #[x, y] := by
  apply Array.ext'; simpa using h

theorem good_call (hI : Inv β w h) {e : Env} {a : Act} (hE : ER β w h e a) {o : Oper} {c : Call} {x : XOp} {d : DV} (ho : o.op = .call c) (hx : cvCall P c = some x) (hc : isCall x = none) (hd : evx x e h = some (d, h')) :
    Good P β w h (execOp a.eval o) d h' := by
  have goal : ∀ {b : Builtin} {s : Sem Next}, c.callee = .builtin b → (builtin b c.argTypes o.type (c.args.map fun | .const _ => true | _ => false) (c.args.map a.eval)) = s → Good P β w h s d h' → Good P β w h (execOp a.eval o) d h' := by
    intro b s hb hs hg
    obtain ⟨v, w', β', hdid, hrest⟩ := hg
    refine ⟨v, w', β', ?_, hrest⟩
    unfold Did at hdid ⊢
    rw [run_callB ho hb, hs]
    exact hdid
  unfold cvCall at hx
  split at hx
  · -- a function
    split at hx
    · injection hx with hx; subst hx; cases hc
    · cases hx
  · -- len
    rename_i cx t hcal has hts
    have ha := arr1 has; have htt := arr1 hts
    split at hx
    · rename_i o' hu hcv
      injection hx with hx; subst hx
      simp only [evx] at hd
      split at hd
      · rename_i s hs
        simp only [Option.some.injEq, Prod.mk.injEq] at hd
        obtain ⟨rfl, rfl⟩ := hd
        have h1 := cvO_ok hE hcv
        rw [hs] at h1
        refine goal hcal rfl ?_
        rw [ha, htt]
        refine Good.v hI ⟨.int .i64 s.size, ?_, .int _ _⟩
        generalize hv : a.eval cx = v at h1
        cases h1
        simp [Builtin.len_, run_underlying hu, hv, goInt]
      · cases hd
    · rename_i e' o' hu hcv
      split at hx
      · rename_i sz hsz
        injection hx with hx; subst hx
        simp only [evx] at hd
        cases hvw : vw h sz (o'.v e) with
        | none => rw [hvw] at hd; cases hd
        | some xs =>
          rw [hvw] at hd
          simp only [Option.map_some, Option.some.injEq, Prod.mk.injEq] at hd
          obtain ⟨rfl, rfl⟩ := hd
          have h1 := cvO_ok hE hcv
          obtain ⟨A, n, cap, hv⟩ := vw_slice h1 hvw
          rw [hv] at h1
          obtain ⟨hn, _⟩ := vw_cells hI h1 hvw
          refine goal hcal rfl ?_
          rw [ha, htt]
          refine Good.v hI ⟨.int .i64 xs.length, ?_, .int _ _⟩
          simp [Builtin.len_, run_underlying hu, hv, goInt, hn]
      · cases hx
    · rename_i o' k' e' hu hcv
      injection hx with hx; subst hx
      simp only [evx] at hd
      have h1 := cvO_ok hE hcv
      generalize hv : a.eval cx = v at h1
      split at hd
      · rename_i hm
        rw [hm] at h1
        simp only [Option.some.injEq, Prod.mk.injEq] at hd
        obtain ⟨rfl, rfl⟩ := hd
        cases h1
        refine goal hcal rfl ?_
        rw [ha, htt]
        refine Good.v hI ⟨.int .i64 0, ?_, .int _ _⟩
        simp [Builtin.len_, run_underlying hu, hv, goInt]
      · rename_i ob hm
        rw [hm] at h1
        split at hd
        · rename_i kt et es hob
          simp only [Option.some.injEq, Prod.mk.injEq] at hd
          obtain ⟨rfl, rfl⟩ := hd
          cases h1 with
          | map hb ho' =>
            obtain ⟨ms, clk, q1, q2, q3⟩ := hI.ob _ _ _ hb hob
            refine goal hcal rfl ?_
            rw [ha, htt]
            refine Good.v hI ⟨.int .i64 es.length, ?_, .int _ _⟩
            have hl : es.length = ms.size := by simpa using q2.len
            simp [Builtin.len_, run_underlying hu, hv, goInt, getObj, q1, hl, Sem.run]
        · cases hd
      · cases hd
    · cases hx
  · -- append
    rename_i cx cy t u hcal has hts
    have ha := arr2 has; have htt := arr2 hts
    split at hx
    · rename_i e' ht huu
      split at hx
      · rename_i i oa ob hi hca hcb
        split at hx
        · rename_i z hz
          split at hx
          · rename_i hq
            injection hx with hx; subst hx
            simp only [evx] at hd
            have h1 := cvO_ok hE hca
            have h2 := cvO_ok hE hcb
            have hk : (∃ e', P.underlying u = some (.slice e')) ∨ P.underlying u = some .string := by
              split at huu
              · rename_i q hq; exact .inl ⟨_, hq⟩
              · rename_i hq; exact .inr hq
              · cases huu
            cases hvw : vw h i.size (oa.v e) with
            | none => rw [hvw] at hd; cases hd
            | some xs =>
              rw [hvw] at hd
              cases hvy : srcOf h i.size (ob.v e) with
              | none => rw [hvy] at hd; cases hd
              | some ys =>
                rw [hvy] at hd
                simp only at hd
                refine goal hcal rfl ?_
                rw [ha, htt, show Array.map a.eval #[cx, cy] = #[a.eval cx, a.eval cy] by simp]
                exact Good.val (good_app hI (ty := o.type) ht hk hi hz hq.1 hq.2.1 hq.2.2 h1 h2 hvw hvy hd)
          · cases hx
        · cases hx
      · cases hx
    · cases hx
  · -- min
    rename_i hcal
    split at hx
    · rename_i os hcl
      injection hx with hx; subst hx
      simp only [evx] at hd
      have h1 := cvL_ok hE hcl
      split at hd
      · rename_i k n l hl
        cases hm : mm false k n l with
        | none => rw [hm] at hd; cases hd
        | some r =>
          rw [hm] at hd
          simp only [Option.map_some, Option.some.injEq, Prod.mk.injEq] at hd
          obtain ⟨rfl, rfl⟩ := hd
          rw [hl] at h1
          refine goal hcal rfl ?_
          refine Good.v hI ⟨.int k r, ?_, .int _ _⟩
          generalize hvs : List.map a.eval c.args.toList = vs at h1
          cases h1 with
          | cons hd1 hs1 =>
            cases hd1
            have := good_mm (mx := false) (P := P) hs1 hm
            simp only [Builtin.min_, Array.toList_map, hvs]
            simpa using this
      · cases hd
    · cases hx
  · -- max
    rename_i hcal
    split at hx
    · rename_i os hcl
      injection hx with hx; subst hx
      simp only [evx] at hd
      have h1 := cvL_ok hE hcl
      split at hd
      · rename_i k n l hl
        cases hm : mm true k n l with
        | none => rw [hm] at hd; cases hd
        | some r =>
          rw [hm] at hd
          simp only [Option.map_some, Option.some.injEq, Prod.mk.injEq] at hd
          obtain ⟨rfl, rfl⟩ := hd
          rw [hl] at h1
          refine goal hcal rfl ?_
          refine Good.v hI ⟨.int k r, ?_, .int _ _⟩
          generalize hvs : List.map a.eval c.args.toList = vs at h1
          cases h1 with
          | cons hd1 hs1 =>
            cases hd1
            have := good_mm (mx := true) (P := P) hs1 hm
            simp only [Builtin.max_, Array.toList_map, hvs]
            simpa using this
      · cases hd
    · cases hx
  · cases hx
end
end Go.Proofs.YtfgnefnpfgdliaaDoor
