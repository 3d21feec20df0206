/- A function of the program, told by the ideal machine. -/
import Derived.Test.YtfgnefnpfgdliaaDoorEngV
namespace Go.Proofs.YtfgnefnpfgdliaaDoor
open Go.RowKit
set_option linter.unusedVariables false
set_option linter.unusedSimpArgs false

def CallOk1 (P : Program) (f : Nat) (g : List DV → Heap → Option (DV × Heap)) : Prop := ∀ args h d h' β w vs, g args h = some (d, h') → Inv β w h → RVs β w h args vs →
  (callFunc f vs.toArray).run P w = .ok (.enter f vs.toArray) w ∧
  Calls P f vs.toArray w (fun e w' => ∃ v β', e = .returned v ∧ Ext β w h β' w' (mat d h').2 ∧ Inv β' w' (mat d h').2 ∧ RV β' w' (mat d h').2 (mat d h').1 v)

/-- The ideal functions are the program's. -/
structure Sound (P : Program) (X : Nat → Option XK) (H : Nat → Hints) : Prop where
  mixed : P.follows .mixedOrders = true
  fn : ∀ f x, X f = some (.fn x) → ∃ fn, P.funcs[f]? = some fn ∧ cvF P (H f) fn = some x
  ext : ∀ f g, X f = some (.ext g) → CallOk1 P f g

section
variable {P : Program} {β β' : Bm} {w w' : World} {h h' : Heap}

def resOf (tmps : Array Value) : ResultVar → Sem Value
  | .tmp t => pure (tmps.getD t undef)
  | .cell q t => do loadVar t (← asAddr (tmps.getD q undef))
theorem run_resultVar {r : ResultVar} {x : XRes} (hx : cvRes P [r] = some [x]) (hI : Inv β w h) {e : Env} {a : Act} (hE : ER β w h e a) {ds : List DV} (hd : resL [x] e h = some ds) :
    ∃ v, RVs β w h ds [v] ∧ (resOf a.tmps r).run P w = .ok v w := by
  cases r with
  | tmp t =>
    simp only [cvRes] at hx
    injection hx with hx; injection hx with hx; subst hx
    simp only [resL, Option.map_some] at hd
    injection hd with hd; subst hd
    exact ⟨_, .cons (hE t) .nil, rfl⟩
  | cell q t =>
    simp only [cvRes] at hx
    split at hx
    · rename_i ag sz r h1 h2 h3
      injection h3 with h3; subst h3
      injection hx with hx; injection hx with hx; subst hx
      simp only [resL] at hd
      split at hd
      · rename_i d hld
        simp only [Option.map_some] at hd
        injection hd with hd; subst hd
        have hr := hE q
        obtain ⟨u, hu, hru⟩ := good_load (P := P) hI h1 h2 hr hld
        refine ⟨u, .cons hru .nil, ?_⟩
        show (do loadVar t (← asAddr (a.tmps.getD q undef)) : Sem Value).run P w = _
        generalize a.tmps.getD q undef = v at hr hu ⊢
        generalize lk e q = dd at hr hld
        cases hr <;> simp [ldx] at hld
        · simpa [Instr.loadAt, Instr.sureAddr, asAddr] using hu
        · simpa [Instr.loadAt, Instr.sureAddr, asAddr] using hu
      · cases hd
    · cases hx

theorem run_results (hI : Inv β w h) {e : Env} {a : Act} (hE : ER β w h e a) : ∀ {rs : List ResultVar} {xs : List XRes} {ds : List DV}, cvRes P rs = some xs → resL xs e h = some ds →
    ∃ vs, RVs β w h ds vs ∧ (rs.mapM (resOf a.tmps)).run P w = .ok vs w
  | [], xs, ds, hx, hd => by
    simp only [cvRes] at hx
    injection hx with hx; subst hx
    simp only [resL] at hd
    injection hd with hd; subst hd
    exact ⟨[], .nil, rfl⟩
  | r :: rs, xs, ds, hx, hd => by
    have hsplit : ∃ x xs', xs = x :: xs' ∧ cvRes P [r] = some [x] ∧ cvRes P rs = some xs' := by
      cases r with
      | tmp t =>
        simp only [cvRes] at hx ⊢
        split at hx
        · rename_i r h1
          injection hx with hx; subst hx
          exact ⟨_, _, rfl, rfl, h1⟩
        · cases hx
      | cell q t =>
        simp only [cvRes] at hx ⊢
        split at hx
        · rename_i ag sz r h1 h2 h3
          injection hx with hx; subst hx
          exact ⟨_, _, rfl, by rw [h1, h2], h3⟩
        · cases hx
    obtain ⟨x, xs', rfl, h1, h2⟩ := hsplit
    have hds : ∃ d ds', ds = d :: ds' ∧ resL [x] e h = some [d] ∧ resL xs' e h = some ds' := by
      cases x with
      | t s =>
        simp only [resL] at hd ⊢
        rw [Option.map_eq_some_iff] at hd
        obtain ⟨r', hr', rfl⟩ := hd
        exact ⟨_, _, rfl, rfl, hr'⟩
      | cell s ag sz =>
        simp only [resL] at hd ⊢
        split at hd
        · rename_i d hld
          rw [Option.map_eq_some_iff] at hd
          obtain ⟨r', hr', rfl⟩ := hd
          exact ⟨_, _, rfl, rfl, hr'⟩
        · cases hd
    obtain ⟨d, ds', rfl, h3, h4⟩ := hds
    obtain ⟨v, hv, hrun⟩ := run_resultVar h1 hI hE h3
    obtain ⟨vs, hvs, hruns⟩ := run_results hI hE h2 h4
    cases hv with
    | cons hv1 _ =>
      refine ⟨v :: vs, .cons hv1 hvs, ?_⟩
      rw [List.mapM_cons, Sem.run_bind]
      rw [hrun]
      simp only [Result.andThen_ok]
      rw [Sem.run_bind, hruns]
      rfl
theorem results_ok {fn : Func} {xs : List XRes} (hx : cvRes P fn.results.toList = some xs) (hI : Inv β w h) {e : Env} {a : Act} (hE : ER β w h e a) {ds : List DV} (hd : resL xs e h = some ds) :
    ∃ vs, RVs β w h ds vs ∧ (results fn a.tmps).run P w = .ok (valOf vs) w := by
  obtain ⟨vs, h1, h2⟩ := run_results hI hE hx hd
  refine ⟨vs, h1, ?_⟩
  have hfun : results fn a.tmps = (do let vs ← fn.results.mapM (resOf a.tmps); pure (if h : vs.size = 1 then vs[0] else .tuple vs)) := by
    unfold results
    congr 1
  rw [hfun]
  rw [Array.mapM_eq_mapM_toList, map_eq_pure_bind, Sem.run_bind, Sem.run_bind, h2]
  simp only [Result.andThen_ok, Sem.run_pure]
  congr 1
  match vs with
  | [] => rfl
  | [v] => rfl
  | v :: u :: l =>
    have : (v :: u :: l).toArray.size ≠ 1 := by simp
    rw [dif_neg this]
    rfl

theorem lk_enter : ∀ (args : List DV) (i s : Nat), lk (enterEnv args i) s = if i ≤ s then (args[s - i]?).getD .undef else .undef
  | [], i, s => by simp [enterEnv, lk]
  | d :: l, i, s => by
    simp only [enterEnv, lk, lk_enter l (i + 1) s]
    by_cases h1 : i = s
    · subst h1; simp
    · by_cases h2 : i ≤ s
      · rw [if_neg h1, if_pos h2, if_pos (by omega), show s - i = (s - (i + 1)) + 1 by omega, List.getElem?_cons_succ]
      · rw [if_neg h1, if_neg h2, if_neg (by omega)]

theorem evF_ok {X : Nat → Option XK} {H : Nat → Hints} (hS : Sound P X H) : ∀ n, CallOk P (evF X n)
  | 0 => fun f args h d h' β w vs hev => by simp [evF] at hev
  | n + 1 => fun f args h d h' β w vs hev hI hR => by
    simp only [evF] at hev
    split at hev
    · cases hev
    · rename_i g hX
      exact hS.ext f g hX args h d h' β w vs hev hI hR
    · rename_i x hX
      obtain ⟨fn, hfn, hcv⟩ := hS.fn f x hX
      split at hev
      case isFalse => cases hev
      rename_i hlen
      unfold cvF at hcv
      split at hcv
      case h_2 => cases hcv
      rename_i c hbody
      split at hcv
      case h_2 => cases hcv
      rename_i xc xr hxc hxr
      split at hcv
      case isFalse => cases hcv
      rename_i hq
      injection hcv with hcv; subst hcv
      obtain ⟨hnp, hname⟩ := hq
      simp only at hlen hev
      have hvl : vs.length = args.length := hR.len.symm
      have hrun : (callFunc f vs.toArray).run P w = .ok (.enter f vs.toArray) w := by
        simp [callFunc, hfn, hname, hbody]
      refine ⟨hrun, calls_of_wp hfn hbody ?_⟩
      have hsz : (vs.toArray ++ Array.replicate (fn.ntmps - vs.toArray.size) undef).size = fn.ntmps := by
        simp; omega
      have hER : ER β w h (enterEnv args 0) { tmps := vs.toArray ++ Array.replicate (fn.ntmps - vs.toArray.size) undef, defers := [] } := by
        intro s
        rw [lk_enter]
        simp only [Nat.zero_le, if_true, Nat.sub_zero]
        cases hs : args[s]? with
        | none => exact .undef _
        | some d0 =>
          obtain ⟨v, hv, hrv⟩ := hR.get hs
          have : (vs.toArray ++ Array.replicate (fn.ntmps - vs.toArray.size) undef).getD s undef = v := by
            rw [Array.getD_eq_getD_getElem?, Array.getElem?_append_left (by have := (List.getElem?_eq_some_iff.1 hv).1; simpa using this)]
            simp [hv]
          simp only [Option.getD_some]
          rw [this]
          exact hrv
      -- the end
      have final : ∀ (ex : Ex) (e : Env) (h1 : Heap) (ds : List DV), evC (evF X n) n xc (enterEnv args 0) h = some (ex, e, h1) → (ex = .norm ∨ ex = .ret) → resL xr e h1 = some ds → fin h h1 ds = (d, h') →
          c.wp P (bodyPost P fn (fun e w' => ∃ v β', e = .returned v ∧ Ext β w h β' w' (mat d h').2 ∧ Inv β' w' (mat d h').2 ∧ RV β' w' (mat d h').2 (mat d h').1 v))
            { tmps := vs.toArray ++ Array.replicate (fn.ntmps - vs.toArray.size) undef, defers := [] } w := by
        intro ex e h1 ds hbodyev hex hres hfin
        refine code_ok (evF_ok hS n) hS.mixed n c xc hxc _ _ _ hbodyev β w _ [] hI hER hsz rfl _ ?_
        intro β' w' a' q1 q2 q3 q4 q5
        obtain ⟨us, r1, r2⟩ := results_ok hxr q2 q3 hres
        obtain ⟨β2, p1, p2, p3⟩ := fin_ok hI q1 q2 r1 hfin
        rcases hex with rfl | rfl
        · exact ⟨q5, _, r2, _, β2, rfl, p1, p2, p3⟩
        · exact ⟨q5, _, r2, _, β2, rfl, p1, p2, p3⟩
      split at hev
      · rename_i e h1 hb
        rw [Option.map_eq_some_iff] at hev
        obtain ⟨ds, hds, hfin⟩ := hev
        exact final .norm e h1 ds hb (.inl rfl) hds hfin
      · rename_i e h1 hb
        rw [Option.map_eq_some_iff] at hev
        obtain ⟨ds, hds, hfin⟩ := hev
        exact final .ret e h1 ds hb (.inr rfl) hds hfin
      · cases hev

/-- **A call, told by the ideal machine.** -/
theorem E_ok {X : Nat → Option XK} {H : Nat → Hints} (hS : Sound P X H) : CallOk P (E X) := by
  intro f args h d h' β w vs hev hI hR
  obtain ⟨n, hn⟩ := (E_iff _ _ _ _ _).1 hev
  exact evF_ok hS n f args h d h' β w vs hn hI hR
end
end Go.Proofs.YtfgnefnpfgdliaaDoor
