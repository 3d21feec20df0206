/- Every operation that is no call of a function does what the ideal machine says: all of them. -/
import Derived.Test.YtfgnefnpfgdliaaDoorEngM
namespace Go.Proofs.YtfgnefnpfgdliaaDoor
open Go.RowKit
set_option linter.unusedVariables false
set_option linter.unusedSimpArgs false

section
variable {P : Program} {β β' : Bm} {w w' : World} {h h' : Heap}

theorem some_pair {α β : Type} {a a' : α} {b b' : β} (h : some (a, b) = some (a', b')) : a = a' ∧ b = b' := by
  injection h with h; injection h with h1 h2; exact ⟨h1, h2⟩
theorem map_pair {α β γ : Type} {x : Option α} {f : α → β} {c : γ} {d : β} {c' : γ} (h : x.map (fun y => (f y, c)) = some (d, c')) : ∃ y, x = some y ∧ d = f y ∧ c' = c := by
  cases x with
  | none => cases h
  | some y => simp at h; exact ⟨y, rfl, h.1.symm, h.2.symm⟩

set_option maxHeartbeats 1000000 in
theorem evx_good (hI : Inv β w h) {e : Env} {a : Act} (hE : ER β w h e a) {o : Oper} {x : XOp} {d : DV} (hx : cvOp P o.op = some x) (hc : isCall x = none) (hd : evx x e h = some (d, h')) :
    Good P β w h (execOp a.eval o) d h' := by
  obtain ⟨dst, op, guard, ty, pos⟩ : ∃ p : Oper, p = o := ⟨o, rfl⟩
  cases hop : o.op with
  | move y =>
    unfold execOp; rw [hop] at hx ⊢
    simp only [cvOp] at hx ⊢
    split at hx
    · rename_i ox hox
      injection hx with hx; subst hx
      obtain ⟨rfl, rfl⟩ := some_pair hd
      exact Good.quiet hI rfl (cvO_ok hE hox)
    · cases hx
  | assign y =>
    unfold execOp; rw [hop] at hx ⊢
    simp only [cvOp] at hx ⊢
    split at hx
    · rename_i ox hox
      injection hx with hx; subst hx
      obtain ⟨rfl, rfl⟩ := some_pair hd
      exact Good.quiet hI rfl (cvO_ok hE hox)
    · cases hx
  | pick c y z =>
    unfold execOp; rw [hop] at hx ⊢
    simp only [cvOp] at hx ⊢
    split at hx
    · rename_i oc oa ob h1 h2 h3
      injection hx with hx; subst hx
      simp only [evx] at hd
      split at hd
      · rename_i t ht
        obtain ⟨rfl, rfl⟩ := some_pair hd
        have hc := cvO_ok hE h1
        rw [ht] at hc
        generalize hv : a.eval c = v at hc
        cases hc
        refine Good.quiet hI (v := if t = true then a.eval y else a.eval z) (by simp [hv, asBool]) ?_
        cases t
        · exact cvO_ok hE h3
        · exact cvO_ok hE h2
      · cases hd
    · cases hx
  | alloc t =>
    unfold execOp; rw [hop] at hx ⊢
    simp only [cvOp] at hx ⊢
    split at hx
    · rename_i z hz
      split at hx
      · rename_i cs hcs
        injection hx with hx; subst hx
        obtain ⟨rfl, rfl⟩ := some_pair hd
        obtain ⟨w', β', q⟩ := good_alloc hI hz hcs
        exact Good.val ⟨_, w', β', q⟩
      · cases hx
    · cases hx
  | box t y =>
    unfold execOp; rw [hop] at hx ⊢
    simp only [cvOp] at hx ⊢
    split at hx
    · rename_i ox hox
      injection hx with hx; subst hx
      simp only [evx] at hd
      split at hd
      · cases hd
      · rename_i hu
        obtain ⟨rfl, rfl⟩ := some_pair hd
        obtain ⟨w', β', q⟩ := good_box hI (t := t) (cvO_ok hE hox) (by simpa using hu)
        exact Good.val ⟨_, w', β', q⟩
    · cases hx
  | build t ps =>
    unfold execOp; rw [hop] at hx ⊢
    simp only [cvOp] at hx ⊢
    split at hx
    · rename_i z fs hz hu
      split at hx
      · rename_i pl hpl
        split at hx
        · rename_i cs l hcs hl
          injection hx with hx; subst hx
          simp only [evx] at hd
          obtain ⟨ds, hds, rfl, rfl⟩ := map_pair hd
          obtain ⟨us, h1, h2⟩ := good_fill hE ps.toList (vs := z.cells) hl (vdL_ok hcs).1 hds
          refine Good.v hI ⟨.agg us, ?_, ?_⟩
          · have hpl' := run_places (P := P) (w := w) fs.toList hpl
            have hm : (fs.mapM (fun f => (do pure (f.offset, ← sizeOf f.type) : Sem (Nat × Nat)))).run P w = .ok pl.toArray w := by
              rw [Array.mapM_eq_mapM_toList, map_eq_pure_bind, Sem.run_bind, hpl']
              rfl
            unfold Instr.build
            rw [Sem.run_bind, run_zeroValue hz]
            simp only [Result.andThen_ok]
            rw [Sem.run_bind, run_underlying hu]
            simp only [Result.andThen_ok]
            rw [Sem.run_bind, hm]
            simp only [Result.andThen_ok, Array.toList_map, List.getElem?_toArray]
            rw [h1]
            rfl
          · have := RV.agg h2
            simpa using this
        · cases hx
      · cases hx
    · cases hx
  | buildSlice t n ps =>
    unfold execOp; rw [hop] at hx ⊢
    simp only [cvOp] at hx ⊢
    split at hx
    · rename_i et xs hu hio
      split at hx
      · rename_i sz z os hs hz hcl
        split at hx
        · rename_i hq
          injection hx with hx; subst hx
          obtain ⟨v, w', β', q⟩ := good_mkslice hI hE hu hio hs hz hcl hq.1 hq.2.1 hq.2.2.1 hq.2.2.2 hd
          exact Good.val ⟨v, w', β', q⟩
        · cases hx
      · cases hx
    · cases hx
  | makeSlice t n m =>
    unfold execOp; rw [hop] at hx ⊢
    simp only [cvOp] at hx ⊢
    split at hx
    · rename_i et hu
      split at hx
      · rename_i i oa ob hi h1 h2
        split at hx
        · rename_i z hz
          split at hx
          · rename_i zd hzd
            split at hx
            · rename_i hq
              injection hx with hx; subst hx
              simp only [evx] at hd
              split at hd
              · rename_i ka n1 kb n2 e1 e2
                split at hd
                · rename_i hqq
                  obtain ⟨rfl, rfl⟩ := some_pair hd
                  have c1 := cvO_ok hE h1
                  have c2 := cvO_ok hE h2
                  rw [e1] at c1; rw [e2] at c2
                  generalize hv1 : a.eval n = v1 at c1
                  generalize hv2 : a.eval m = v2 at c2
                  cases c1; cases c2
                  exact Good.val (good_make hI hu hi hz hzd hq.2.1 hq.2.2 hqq.1 hqq.2.1 hqq.2.2.1 hqq.2.2.2)
                · cases hd
              · cases hd
            · cases hx
          · cases hx
        · cases hx
      · cases hx
    · cases hx
  | load t y =>
    unfold execOp; rw [hop] at hx ⊢
    simp only [cvOp] at hx ⊢
    split at hx
    · rename_i ag sz ox h1 h2 h3
      injection hx with hx; subst hx
      simp only [evx] at hd
      obtain ⟨u, hu, rfl, rfl⟩ := map_pair (f := fun d => d) hd
      exact Good.v hI (good_load hI h1 h2 (cvO_ok hE h3) hu)
    · cases hx
  | store t y z =>
    unfold execOp; rw [hop] at hx ⊢
    simp only [cvOp] at hx ⊢
    split at hx
    · rename_i sz ox oy h1 h2 h3
      injection hx with hx; subst hx
      simp only [evx] at hd
      cases hs : stx h sz (ox.v e) (oy.v e) with
      | none => rw [hs] at hd; cases hd
      | some h1' =>
        rw [hs] at hd
        simp only [Option.map_some] at hd
        obtain ⟨rfl, rfl⟩ := some_pair hd
        obtain ⟨w', q1, q2, q3⟩ := good_store hI h1 (cvO_ok hE h2) (cvO_ok hE h3) hs
        exact ⟨undef, w', β, .inr ⟨by rw [Sem.run_bind, q1]; rfl, rfl⟩, q2, q3, .undef _⟩
    · cases hx
  | nilCheck y =>
    unfold execOp; rw [hop] at hx ⊢
    simp only [cvOp] at hx ⊢
    split at hx
    · rename_i ox hox
      injection hx with hx; subst hx
      have h1 := cvO_ok hE hox
      simp only [evx] at hd
      generalize hv : a.eval y = v at h1
      split at hd
      · rename_i ob p hq
        obtain ⟨rfl, rfl⟩ := some_pair hd
        rw [hq] at h1
        cases h1 with
        | ref hb ho => exact Good.quiet hI rfl (.ref hb ho)
      · rename_i dd s i p hq
        obtain ⟨rfl, rfl⟩ := some_pair hd
        rw [hq] at h1
        cases h1 with
        | elem h2 hi => exact Good.quiet hI rfl (.elem h2 hi)
      · rename_i f x1 x2 hq
        obtain ⟨rfl, rfl⟩ := some_pair hd
        rw [hq] at h1
        cases h1 with
        | func ha hb => exact Good.quiet hI rfl (.func ha hb)
      · cases hd
    · cases hx
  | binOp bop t y z q =>
    unfold execOp; rw [hop] at hx ⊢
    simp only [cvOp] at hx ⊢
    have hgo : ∀ {r : Value} {d : DV}, (eqGuard bop t y z (a.eval y) (a.eval z)).run P w = .ok () w → (binOp bop t (a.eval y) (a.eval z)).run P w = .ok r w → RV β w h d r →
        Good P β w h (do let r ← (do eqGuard bop t y z (a.eval y) (a.eval z); binOp bop t (a.eval y) (a.eval z)); pure (.value r)) d h := by
      intro r d h1 h2 h3
      refine Good.v hI ⟨r, ?_, h3⟩
      rw [Sem.run_bind, h1]
      exact h2
    split at hx
    · rename_i oa ob h1 h2
      have c1 := cvO_ok hE h1
      have c2 := cvO_ok hE h2
      have hbin : ∀ {x : XOp}, x = .bin bop oa ob → evx x e h = some (d, h') → Good P β w h (do let r ← (do eqGuard bop t y z (a.eval y) (a.eval z); binOp bop t (a.eval y) (a.eval z)); pure (.value r)) d h' := by
        rintro _ rfl hd
        simp only [evx] at hd
        obtain ⟨u, hu, rfl, rfl⟩ := map_pair (f := fun d => d) hd
        obtain ⟨r, g1, g2, g3⟩ := good_bin (P := P) (t := t) (ox := y) (oy := z) c1 c2 hu
        exact hgo g1 g2 g3
      split at hx
      · rename_i hop2
        have hneg : bop = (if (bop == .neq) = true then .neq else .eql) := by rcases hop2 with rfl | rfl <;> rfl
        have hk : ∀ {kd : Nat} {td : TypeDesc} {x : XOp}, P.underlying t = some td → kdOk kd td → (kd = 5 → isConst' y = true ∨ isConst' z = true) → x = .eqk kd (bop == .neq) oa ob → evx x e h = some (d, h') →
            Good P β w h (do let r ← (do eqGuard bop t y z (a.eval y) (a.eval z); binOp bop t (a.eval y) (a.eval z)); pure (.value r)) d h' := by
          rintro kd td _ hu hok h5 rfl hd
          simp only [evx] at hd
          obtain ⟨u, hu', rfl, rfl⟩ := map_pair (f := fun r => DV.bool (if (bop == .neq) = true then !r else r)) hd
          obtain ⟨g1, g2⟩ := good_eqk (P := P) (neg := bop == .neq) (ox := y) (oy := z) c1 c2 hu' hu hok h5
          rw [← hneg] at g1 g2
          exact hgo g1 g2 (.bool _)
        split at hx
        · rename_i fs hu
          split at hx
          · rename_i ks hks
            injection hx with hx; subst hx
            simp only [evx] at hd
            split at hd
            · rename_i cs ds e1 e2
              rw [e1] at c1; rw [e2] at c2
              obtain ⟨u, hu', rfl, rfl⟩ := map_pair (f := fun r => DV.bool (if (bop == .neq) = true then !r else r)) hd
              obtain ⟨g1, g2⟩ := good_eqa (P := P) (neg := bop == .neq) (ox := y) (oy := z) c1 c2 hu' hks
              rw [← hneg] at g1 g2
              exact hgo g1 g2 (.bool _)
            · cases hd
          · cases hx
        · rename_i m hu
          split at hx
          · rename_i hcc
            injection hx with hx
            exact hk (kd := 5) hu ⟨_, rfl⟩ (fun _ => by simpa using hcc) hx.symm hd
          · cases hx
        · rename_i hu
          injection hx with hx
          exact hk (kd := 0) hu rfl (fun h => by cases h) hx.symm hd
        · rename_i hu
          injection hx with hx
          exact hk (kd := 1) hu ⟨_, rfl⟩ (fun h => by cases h) hx.symm hd
        · rename_i hu
          injection hx with hx
          exact hk (kd := 2) hu ⟨_, rfl⟩ (fun h => by cases h) hx.symm hd
        · rename_i hu
          injection hx with hx
          exact hk (kd := 3) hu ⟨_, _, rfl⟩ (fun h => by cases h) hx.symm hd
        · rename_i hu
          injection hx with hx
          exact hk (kd := 4) hu ⟨_, _, _, rfl⟩ (fun h => by cases h) hx.symm hd
        · injection hx with hx
          exact hbin hx.symm hd
        · injection hx with hx
          exact hbin hx.symm hd
        · cases hx
      · injection hx with hx
        exact hbin hx.symm hd
    · cases hx
  | unOp uop t y =>
    unfold execOp; rw [hop] at hx ⊢
    simp only [cvOp] at hx ⊢
    split at hx
    · rename_i ox hox
      injection hx with hx; subst hx
      simp only [evx] at hd
      obtain ⟨u, hu, rfl, rfl⟩ := map_pair (f := fun d => d) hd
      exact Good.v hI (good_un (cvO_ok hE hox) hu)
    · cases hx
  | convert src dst y =>
    unfold execOp; rw [hop] at hx ⊢
    simp only [cvOp] at hx ⊢
    split at hx
    · rename_i j k ox hs ht hox
      injection hx with hx; subst hx
      simp only [evx] at hd
      split at hd
      · rename_i q n hv
        obtain ⟨rfl, rfl⟩ := some_pair hd
        have h1 := cvO_ok hE hox
        rw [hv] at h1
        generalize hv' : a.eval y = v at h1
        cases h1
        exact Good.v hI ⟨_, good_toint hs ht, .int _ _⟩
      · cases hd
    · rename_i et ox hs ht hox
      split at hx
      · rename_i he
        injection hx with hx; subst hx
        simp only [evx] at hd
        split at hd
        · rename_i xs hvw
          obtain ⟨u, hu, rfl, rfl⟩ := map_pair (f := fun bs : List UInt8 => DV.str ⟨bs.toArray⟩) hd
          exact Good.v hI ⟨_, good_tostr hI hs he ht (cvO_ok hE hox) hvw hu, .str _⟩
        · cases hd
      · cases hx
    · cases hx
  | makeInterface t y =>
    unfold execOp; rw [hop] at hx ⊢
    simp only [cvOp] at hx ⊢
    split at hx
    · cases hx
    · rename_i td ox hne hu hox
      injection hx with hx; subst hx
      obtain ⟨rfl, rfl⟩ := some_pair hd
      refine Good.v hI ⟨.iface t (a.eval y), ?_, .ifc (cvO_ok hE hox)⟩
      unfold Instr.makeInterface
      rw [Sem.run_bind, run_underlying hu]
      cases td <;> first | rfl | exact (hne _ rfl).elim | exact (hne _ _ rfl).elim | exact False.elim (hne _ _)
    · cases hx
  | makeFunc fn y z =>
    unfold execOp; rw [hop] at hx ⊢
    cases fn with
    | func f =>
      simp only [cvOp] at hx ⊢
      split at hx
      · rename_i oa ob h1 h2
        injection hx with hx; subst hx
        obtain ⟨rfl, rfl⟩ := some_pair hd
        refine Good.v hI ⟨_, rfl, ?_⟩
        have h3 := cvL_ok hE h1
        have h4 := cvL_ok hE h2
        rw [← Array.toList_map (f := a.eval) (xs := y)] at h3
        rw [← Array.toList_map (f := a.eval) (xs := z)] at h4
        have := RV.func (f := f) h3 h4
        rwa [Array.toArray_toList, Array.toArray_toList] at this
      · cases hx
    | _ => simp [cvOp] at hx
  | slice t y lo hi mx =>
    unfold execOp; rw [hop] at hx ⊢
    simp only [cvOp] at hx ⊢
    split at hx
    · rename_i ox l m hu hox hl hm hmx
      injection hx with hx; subst hx
      simp only [evx] at hd
      have h1 := cvO_ok hE hox
      split at hd
      · rename_i s hs
        rw [hs] at h1
        generalize hv : a.eval y = v at h1
        cases h1
        split at hd
        · rename_i l' m' hl' hm'
          split at hd
          · rename_i hq
            obtain ⟨rfl, rfl⟩ := some_pair hd
            have hmxn : mx = none := by
              cases mx with
              | none => rfl
              | some q => simp only [cvOpt] at hmx; split at hmx <;> cases hmx
            subst hmxn
            have hb := run_bounds (P := P) (w := w) hE false (len := s.size) (cap := s.size) (Nat.le_refl _) hl hm (mx := none) (m' := none) rfl hl' hm' hq.1 hq.2 (by simp)
            refine Good.v hI ⟨_, ?_, .str _⟩
            unfold Instr.sliceAt
            rw [Sem.run_bind, run_underlying hu]
            simp only [Result.andThen_ok]
            unfold Instr.slice
            rw [Sem.run_bind, run_underlying hu]
            simp only [Result.andThen_ok, Option.map_none, Option.isSome_none, Bool.false_eq_true, if_false]
            simp only [Option.map_none] at hb
            rw [Sem.run_bind, hb]
            rfl
          · cases hd
        · cases hd
      · cases hd
    · rename_i et ox l m q hu hox hl hm hmx
      split at hx
      · rename_i sz hsz
        split at hx
        case isFalse => cases hx
        rename_i hcond
        injection hx with hx; subst hx
        simp only [evx] at hd
        split at hd
        · rename_i xs hvw
          split at hd
          · rename_i l' m' hl' hm'
            split at hd
            · rename_i hq
              have h1 := cvO_ok hE hox
              obtain ⟨A, n, cap, hv⟩ := vw_slice h1 hvw
              rw [hv] at h1
              obtain ⟨hn, _⟩ := vw_cells hI h1 hvw
              have hmain : ∀ cc, (∀ o, q = some o → intAt e 0 (some o) = some m' ∧ m ≠ none) → cc = mx.isSome → slcx h (ox.v e) l' m' xs.length cc = some (d, h') →
                  Good P β w h (do let r ← Instr.sliceAt t (a.eval y) (lo.map a.eval) (hi.map a.eval) (mx.map a.eval); pure (.value r)) d h' := by
                intro cc hq2 hcc hd
                have hb := fun c hc => run_bounds (P := P) (w := w) hE true (len := xs.length) (cap := c) hc hl hm hmx hl' hm' hq.1 hq.2 hq2
                obtain ⟨hh, r, g1, g2⟩ := good_slc (P := P) hI hu hsz h1 hvw hq.1 hq.2 hcc hb hd
                subst hh
                rw [hv]
                exact Good.v hI ⟨r, g1, g2⟩
              cases hcut : cutx e m' q with
              | none => rw [hcut] at hd; cases hd
              | some cc =>
                rw [hcut] at hd
                simp only [Option.bind_some] at hd
                refine hmain cc (fun o ho => ?_) ?_ hd
                · subst ho
                  simp only [cutx] at hcut
                  split at hcut
                  · rename_i h5
                    refine ⟨h5, ?_⟩
                    rintro rfl
                    simp at hcond
                  · cases hcut
                · cases mx with
                  | none =>
                    simp [cvOpt] at hmx; subst hmx
                    simp [cutx] at hcut; subst hcut; rfl
                  | some mo =>
                    simp only [cvOpt] at hmx
                    split at hmx
                    · injection hmx with hmx; subst hmx
                      simp only [cutx] at hcut
                      split at hcut
                      · injection hcut with hcut; subst hcut; rfl
                      · cases hcut
                    · cases hmx
            · cases hd
          · cases hd
        · cases hd
      · cases hx
    · cases hx
  | fieldAddr s y f =>
    unfold execOp; rw [hop] at hx ⊢
    simp only [cvOp] at hx ⊢
    split at hx
    · rename_i fs ox hu hox
      split at hx
      · rename_i fl hf
        split at hx
        · rename_i sz hsz
          split at hx
          · cases hx
          · rename_i h0
            injection hx with hx; subst hx
            simp only [evx] at hd
            have h1 := cvO_ok hE hox
            split at hd
            · rename_i ob p hq
              obtain ⟨rfl, rfl⟩ := some_pair hd
              rw [hq] at h1
              exact Good.v hI (good_faddr hI hu hf hsz h0 rfl h1 rfl)
            · rename_i dd s' i p hq
              obtain ⟨rfl, rfl⟩ := some_pair hd
              rw [hq] at h1
              exact Good.v hI (good_faddr hI hu hf hsz h0 rfl h1 rfl)
            · cases hd
        · cases hx
      · cases hx
    · cases hx
  | field s y f =>
    unfold execOp; rw [hop] at hx ⊢
    simp only [cvOp] at hx ⊢
    split at hx
    · rename_i fs ox hu hox
      split at hx
      · rename_i fl hf
        split at hx
        · rename_i ag sz hag hsz
          injection hx with hx; subst hx
          simp only [evx] at hd
          have h1 := cvO_ok hE hox
          split at hd
          · rename_i cs hq
            rw [hq] at h1
            obtain ⟨u, hu', rfl, rfl⟩ := map_pair (f := fun d => d) hd
            exact Good.v hI (good_fld hI hu hf hsz hag rfl h1 hu')
          · cases hd
        · cases hx
      · cases hx
    · cases hx
  | indexAddr t y i =>
    unfold execOp; rw [hop] at hx ⊢
    simp only [cvOp] at hx ⊢
    split at hx
    · rename_i et ox oi hu hox hoi
      split at hx
      · rename_i sz hsz
        injection hx with hx; subst hx
        simp only [evx] at hd
        have h1 := cvG_ok hI hE hox
        have h2 := cvO_ok hE hoi
        split at hd
        · rename_i k n hn
          split at hd
          · rename_i xs hvw
            split at hd
            · rename_i hq
              obtain ⟨rfl, rfl⟩ := some_pair hd
              rw [hn] at h2
              generalize hv : a.eval i = v at h2
              cases h2
              exact Good.v hI (good_iaddr hI hu hsz h1 hvw hq.1 hq.2)
            · cases hd
          · cases hd
        · cases hd
      · cases hx
    · rename_i len et ox oi hu hox hoi
      split at hx
      · rename_i sz hsz
        injection hx with hx; subst hx
        simp only [evx] at hd
        have h1 := cvG_ok hI hE hox
        have h2 := cvO_ok hE hoi
        split at hd
        · rename_i ob p k n e1 e2
          split at hd
          · rename_i hq
            obtain ⟨rfl, rfl⟩ := some_pair hd
            rw [e1] at h1; rw [e2] at h2
            generalize hv : a.eval i = v at h2
            cases h2
            exact Good.v hI (good_iaddra hI hu hsz h1 hq rfl)
          · cases hd
        · rename_i dd s j p k n e1 e2
          split at hd
          · rename_i hq
            obtain ⟨rfl, rfl⟩ := some_pair hd
            rw [e1] at h1; rw [e2] at h2
            generalize hv : a.eval i = v at h2
            cases h2
            exact Good.v hI (good_iaddra hI hu hsz h1 hq rfl)
          · cases hd
        · cases hd
      · cases hx
    · cases hx
  | index t y i =>
    unfold execOp; rw [hop] at hx ⊢
    simp only [cvOp] at hx ⊢
    split at hx
    · rename_i ox oi hu hox hoi
      injection hx with hx; subst hx
      simp only [evx] at hd
      have h1 := cvO_ok hE hox
      have h2 := cvO_ok hE hoi
      split at hd
      · rename_i s k n e1 e2
        split at hd
        · rename_i h0
          rw [e1] at h1; rw [e2] at h2
          generalize hv : a.eval i = v at h2
          generalize hv' : a.eval y = v' at h1
          cases h2; cases h1
          obtain ⟨b, hb, rfl, rfl⟩ := map_pair (f := fun b : UInt8 => DV.int .u8 b.toNat) hd
          exact Good.v hI ⟨_, good_idxs hu h0 hb, .int _ _⟩
        · cases hd
      · cases hd
    · cases hx
  | extract y i =>
    unfold execOp; rw [hop] at hx ⊢
    simp only [cvOp] at hx ⊢
    split at hx
    · rename_i ox hox
      injection hx with hx; subst hx
      simp only [evx] at hd
      have h1 := cvO_ok hE hox
      split at hd
      · rename_i vs hv
        rw [hv] at h1
        generalize hv' : a.eval y = v' at h1
        cases h1 with
        | tup hr =>
          obtain ⟨u, hu, rfl, rfl⟩ := map_pair (f := fun d => d) hd
          obtain ⟨v, hv, hrv⟩ := hr.get hu
          refine Good.v hI ⟨v, ?_, hrv⟩
          simp [Instr.extract, hv]
      · cases hd
    · cases hx
  | call c =>
    rw [hop] at hx
    exact good_call hI hE hop hx hc hd
  | makeMap t r =>
    unfold execOp; rw [hop] at hx ⊢
    simp only [cvOp] at hx ⊢
    split at hx
    · rename_i kt et r' hu hr'
      injection hx with hx; subst hx
      simp only [evx] at hd
      split at hd
      case isFalse => cases hd
      rename_i hint
      obtain ⟨rfl, rfl⟩ := some_pair hd
      refine Good.val (good_mkmap hI hu (fun v hv => ?_))
      cases r with
      | none => simp at hv
      | some x =>
        simp only [cvOpt] at hr'
        split at hr'
        · rename_i ox hox
          injection hr' with hr'; subst hr'
          have h1 := cvO_ok hE hox
          simp only [Option.map_some] at hv
          injection hv with hv; subst hv
          simp only [hintOk] at hint
          split at hint
          · rename_i k n hkn
            rw [hkn] at h1
            generalize a.eval x = u at h1
            cases h1
            exact ⟨_, _, rfl⟩
          · cases hint
        · cases hr'
    · cases hx
  | lookup t m k ok =>
    unfold execOp; rw [hop] at hx ⊢
    simp only [cvOp] at hx ⊢
    split at hx
    · rename_i kt et om ok' hu hom hok
      split at hx
      · rename_i q z hq hz
        split at hx
        · rename_i zd hzd
          injection hx with hx; subst hx
          simp only [evx] at hd
          split at hd
          case isFalse => cases hd
          rename_i hkq
          split at hd
          · rename_i r hr
            obtain ⟨rfl, rfl⟩ := some_pair hd
            exact Good.v hI (good_mget hI hu hq hz (vd_ok hzd).1 (cvO_ok hE hom) (cvO_ok hE hok) hkq hr)
          · cases hd
        · cases hx
      · cases hx
    · cases hx
  | mapUpdate t m k v =>
    unfold execOp; rw [hop] at hx ⊢
    simp only [cvOp] at hx ⊢
    split at hx
    · rename_i kt et om ok' ov hu hom hok hov
      split at hx
      · rename_i q hq
        injection hx with hx; subst hx
        simp only [evx] at hd
        split at hd
        case isFalse => cases hd
        rename_i hkq
        split at hd
        · rename_i o hmo
          split at hd
          · rename_i ct ce es hoo
            cases hp : mput q.1 q.2 (ok'.v e) (ov.v e) es with
            | none => rw [hp] at hd; cases hd
            | some es' =>
              rw [hp] at hd
              simp only [Option.map_some] at hd
              obtain ⟨rfl, rfl⟩ := some_pair hd
              have h1 := cvO_ok hE hom
              rw [hmo] at h1
              obtain ⟨w', q1, q2, q3⟩ := good_mset (P := P) hI hu hq h1 (cvO_ok hE hok) (cvO_ok hE hov) hkq hoo hp
              exact ⟨undef, w', β, .inr ⟨by rw [Sem.run_bind, q1]; rfl, rfl⟩, q2, q3, .undef _⟩
          · cases hd
        · cases hd
      · cases hx
    · cases hx
  | _ => rw [hop] at hx; simp [cvOp] at hx
end
end Go.Proofs.YtfgnefnpfgdliaaDoor
