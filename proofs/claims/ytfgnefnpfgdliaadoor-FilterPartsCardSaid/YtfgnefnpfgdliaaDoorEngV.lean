/- Functions: what the ideal machine says of a call is what the model does. -/
import Derived.Test.YtfgnefnpfgdliaaDoorEngU
namespace Go.Proofs.YtfgnefnpfgdliaaDoor
open Go.RowKit
set_option linter.unusedVariables false
set_option linter.unusedSimpArgs false

def valOf : List Value → Value
  | [v] => v
  | vs => .tuple vs.toArray

section
variable {P : Program} {β β' : Bm} {w w' : World} {h h' : Heap}

theorem take_get {h h' : Heap} (ht : h'.take h.length = h) {o : Nat} (ho : o < h.length) : h'[o]? = h[o]? := by
  have h1 : (h'.take h.length)[o]? = h'[o]? := by rw [List.getElem?_take, if_pos ho]
  rw [← h1, ht]
theorem cut_inv (hI : Inv β w h) (hX : Ext β w h β' w' h') (hI' : Inv β' w' h') (ht : h'.take h.length = h) : Inv (cutB β' h.length) w' h where
  tab p hp := ⟨tr_nr (cut_away (fun o ho => take_get ht ho)) (.list (by intro x hx; simp at hx; subst hx; exact .agg (hI'.tab p hp).2)) (hI'.tab p hp).1, (hI'.tab p hp).2⟩
  lt o b hb := ⟨(cutB_some hb).1, (hI'.lt o b (cutB_some hb).2).2⟩
  inj o o' b hb hb' := hI'.inj o o' b (cutB_some hb).2 (cutB_some hb').2
  tot o ho := by
    rcases hI'.tot o (by have := hX.len; omega) with ⟨b, hb⟩ | ⟨t, cs, h1, h2⟩
    · exact .inl ⟨b, by unfold cutB; rw [if_pos ho]; exact hb⟩
    · exact .inr ⟨t, cs, by rw [← take_get ht ho]; exact h1, h2⟩
  ob o b x hb hx := by
    obtain ⟨q1, q2⟩ := cutB_some hb
    rcases hI.tot o q1 with ⟨b0, hb0⟩ | ⟨t, cs, h1, h2⟩
    · refine tr_OR (β := β) (w := w) (h := h) (β' := β') (h' := h') (cut_away (fun o ho => take_get ht ho)) (fun o b0 ho => ?_) (hI.ob o b0 x hb0 hx) (hI'.ob o b x q2 (by rw [take_get ht q1]; exact hx))
      have hlt := (hI.lt o b0 ho).1
      exact ⟨by unfold cutB; rw [if_pos hlt], (take_get ht hlt).symm⟩
    · rw [hx] at h1; injection h1 with h1; subst h1
      obtain ⟨vs, g1, g2⟩ := hI'.ob o b (.box t cs) q2 (by rw [take_get ht q1]; exact hx)
      exact ⟨vs, g1, tr_nrs (cut_away (fun o ho => take_get ht ho)) h2 g2⟩
theorem cut_ext (hI : Inv β w h) (hX : Ext β w h β' w' h') (hI' : Inv β' w' h') (ht : h'.take h.length = h) : Ext β w h (cutB β' h.length) w' h where
  os := hX.os
  tape := hX.tape
  output := hX.output
  size := hX.size
  len := Nat.le_refl _
  keep := hX.keep
  old o ho hn := by unfold cutB; rw [if_pos ho]; exact hX.old o ho hn
  new o b hb := hX.new o b (cutB_some hb).2
  obj o b x hb hx := by
    have hlt := (hI.lt o b hb).1
    have hL := hX.obj o b x hb hx
    have hc : ∀ b', β' o = some b' → cutB β' h.length o = some b' := fun b' hb' => by unfold cutB; rw [if_pos hlt]; exact hb'
    cases x with
    | box t cs =>
      obtain ⟨q1, cs', q2⟩ := hL
      exact ⟨hc b q1, cs', by rw [← take_get ht hlt]; exact q2⟩
    | frz e sz g xs => exact ⟨hc b hL.1, hx⟩
    | map kt et es =>
      obtain ⟨q1, es', q2⟩ := hL
      exact ⟨hc b q1, es', by rw [← take_get ht hlt]; exact q2⟩
    | row e sz g xs =>
      obtain ⟨b', g', xs', q1, q2, q3, q4⟩ := hL
      rw [take_get ht hlt] at q2
      exact ⟨b', g', xs', hc b' q1, q2, q3, q4⟩

theorem fz_top {n : Nat} {hc h2 : Heap} {d d' : DV} (hz : fz1 n hc true d = some (d', h2)) :
    (∃ e sz xs o g, d = .row o g 0 xs.length false ∧ ¬ o < n ∧ hc[o]? = some (.row e sz g xs) ∧ (∀ x ∈ xs, Nr x) ∧ d' = .fresh e sz xs) ∨ ∃ h3, fz1 n hc false d = some (d', h3) := by
  cases d <;> try exact .inr ⟨h2, hz⟩
  case func f a b => cases a <;> cases b <;> exact .inr ⟨h2, hz⟩
  case ifc t v => cases v <;> exact .inr ⟨h2, hz⟩
  rename_i o g lo m c
  simp only [fz1, fz0] at hz ⊢
  split at hz
  · rename_i hlt
    exact .inr ⟨h2, by rw [if_pos hlt]; exact hz⟩
  · rename_i hge
    split at hz
    · rename_i e sz g' xs ho
      split at hz
      · rename_i hq
        obtain ⟨rfl, hl, hnr⟩ := hq
        split at hz
        · rename_i hq2
          obtain ⟨rfl, rfl⟩ := some_pair hz
          obtain ⟨_, rfl, rfl, rfl⟩ := hq2
          exact .inl ⟨e, sz, xs, o, g', rfl, hge, ho, hnr, rfl⟩
        · obtain ⟨rfl, rfl⟩ := some_pair hz
          exact .inr ⟨_, by rw [if_neg hge, if_pos ⟨rfl, hl, hnr⟩, if_neg (by simp)]⟩
      · cases hz
    · rename_i ho
      exact .inr ⟨h2, by rw [if_neg hge]; exact hz⟩
    · cases hz

theorem fin_ok (hI : Inv β w h) (hX : Ext β w h β' w' h') (hI' : Inv β' w' h') {ds : List DV} {vs : List Value} (hR : RVs β' w' h' ds vs) {d : DV} {hE : Heap} (hf : fin h h' ds = (d, hE)) :
    ∃ β2, Ext β w h β2 w' (mat d hE).2 ∧ Inv β2 w' (mat d hE).2 ∧ RV β2 w' (mat d hE).2 (mat d hE).1 (valOf vs) := by
  have plain : ∀ {d : DV}, RV β' w' h' d (valOf vs) → ∃ β2, Ext β w h β2 w' (mat d h').2 ∧ Inv β2 w' (mat d h').2 ∧ RV β2 w' (mat d h').2 (mat d h').1 (valOf vs) := by
    intro d hr
    rw [mat_of_rv (h2 := h') hr]
    exact ⟨β', hX, hI', hr⟩
  have cut : ∀ {d : DV}, h'.take h.length = h → RV (cutB β' h.length) w' h d (valOf vs) → ∃ β2, Ext β w h β2 w' (mat d h).2 ∧ Inv β2 w' (mat d h).2 ∧ RV β2 w' (mat d h).2 (mat d h).1 (valOf vs) := by
    intro d ht hr
    rw [mat_of_rv (h2 := h) hr]
    exact ⟨_, cut_ext hI hX hI' ht, cut_inv hI hX hI' ht, hr⟩
  unfold fin at hf
  split at hf
  · rename_i d0
    cases hR with
    | cons hd0 hs0 =>
    rename_i v0 vs0
    cases hs0
    have hd1 : RV β' w' h' d0 (valOf [v0]) := hd0
    split at hf
    · rename_i ht
      split at hf
      · rename_i d' h2 hz
        injection hf with e1 e2; subst e1; subst e2
        rcases fz_top hz with ⟨e, sz, xs, o, g, rfl, hge, ho, hnr, rfl⟩ | ⟨h3, hz'⟩
        · cases hd1 with
          | row hb hcp hcc ho' hg hs =>
          rename_i a cap b e' sz' g' xs'
          rw [ho] at ho'
          rcases ho' with ho' | ho'
          · injection ho' with ho'
            injection ho' with i1 i2 i3 i4
            subst i1; subst i2; subst i3; subst i4
            obtain ⟨k1, k2, k3⟩ := hs rfl
            obtain ⟨ka, kb⟩ := k3 rfl
            obtain ⟨cur, hcur, hcsz⟩ := kb rfl ho
            have hE1 := cut_ext hI hX hI' ht
            have hI1 := cut_inv hI hX hI' ht
            have hbsz : w.heap.size ≤ b := by
              rcases hX.new o b hb with h1 | h1
              · exact absurd (hI.lt o b h1).1 hge
              · exact h1
            have hA : ∀ b0, Away β' h' b0 → Away (upd (cutB β' h.length) h.length b) (h ++ [.row e sz 0 xs]) b0 := by
              intro b0 ha k hk
              by_cases hkn : k = h.length
              · subst hkn
                rw [upd_self] at hk; injection hk with hk; subst hk
                obtain ⟨_, _, _, _, h5⟩ := ha o hb
                rw [ho] at h5; cases h5
              · rw [upd_ne _ _ hkn] at hk
                obtain ⟨q1, q2⟩ := cutB_some hk
                rw [List.getElem?_append_left q1, ← take_get ht q1]
                exact ha k q2
            have hfresh : ∀ k, cutB β' h.length k ≠ some b := by
              intro k hk
              obtain ⟨q1, q2⟩ := cutB_some hk
              have := hI'.inj k o b q2 hb
              omega
            have hrow : RowAt (upd (cutB β' h.length) h.length b) w' (h ++ [.row e sz 0 xs]) b e sz xs := by
              obtain ⟨c1, C1, q1, q2, q3, q4, q5, q6, q7⟩ := hI'.ob o b _ hb ho
              exact ⟨c1, C1, q1, q2, q3, q4, q5, q6, tr_nrs hA (nr_flat hnr) q7⟩
            refine ⟨upd (cutB β' h.length) h.length b, ⟨⟨hX.os, hX.tape, hX.output, hX.size, by simp [mat], hX.keep, fun k c hk => ?_, fun k c x hk hx => ?_⟩, fun k hk hn => by rw [upd_ne _ _ (by omega : k ≠ h.length)]; exact hE1.old k hk hn⟩, ⟨fun p hp => ⟨tr_nr hA (.list (by intro x hx; simp at hx; subst hx; exact .agg (hI'.tab p hp).2)) (hI'.tab p hp).1, (hI'.tab p hp).2⟩, fun k c hk => ?_, fun k k' c hk hk' => ?_, fun k c x hk hx => ?_, ?_⟩, ?_⟩
            · by_cases hkn : k = h.length
              · subst hkn; rw [upd_self] at hk; injection hk with hk; subst hk; exact .inr hbsz
              · rw [upd_ne _ _ hkn] at hk; exact hE1.new k c hk
            · have hlt := (hI.lt k c hk).1
              have hkn : k ≠ h.length := by omega
              have hL := hE1.obj k c x hk hx
              have hget : (h ++ [HO.row e sz 0 xs])[k]? = h[k]? := List.getElem?_append_left hlt
              have hup : ∀ c', cutB β' h.length k = some c' → upd (cutB β' h.length) h.length b k = some c' := fun c' hc' => by rw [upd_ne _ _ hkn]; exact hc'
              cases x with
              | box t cs =>
                obtain ⟨q1, cs', q2⟩ := hL
                exact ⟨hup c q1, cs', hget.trans q2⟩
              | frz e sz g xs => exact ⟨hup c hL.1, hget.trans hx⟩
              | map kt et es =>
                obtain ⟨q1, es', q2⟩ := hL
                exact ⟨hup c q1, es', hget.trans q2⟩
              | row e2 sz2 g2 xs2 =>
                obtain ⟨b', g', xs', q1, q2, q3, q4⟩ := hL
                exact ⟨b', g', xs', hup b' q1, by simpa [mat, hget] using q2, q3, q4⟩
            · by_cases hkn : k = h.length
              · subst hkn; rw [upd_self] at hk; injection hk with hk; subst hk
                exact ⟨by simp [mat], (hI'.lt o b hb).2⟩
              · rw [upd_ne _ _ hkn] at hk
                have := hI1.lt k c hk
                exact ⟨by simp [mat]; omega, this.2⟩
            · by_cases hkn : k = h.length
              · subst hkn; rw [upd_self] at hk; injection hk with hk; subst hk
                by_cases hkn' : k' = h.length
                · exact hkn'.symm
                · rw [upd_ne _ _ hkn'] at hk'
                  exact absurd hk' (hfresh k')
              · rw [upd_ne _ _ hkn] at hk
                by_cases hkn' : k' = h.length
                · subst hkn'; rw [upd_self] at hk'; injection hk' with hk'; subst hk'
                  exact absurd hk (hfresh k)
                · rw [upd_ne _ _ hkn'] at hk'
                  exact hI1.inj k k' c hk hk'
            · by_cases hkn : k = h.length
              · subst hkn; rw [upd_self] at hk; injection hk with hk; subst hk
                have : x = .row e sz 0 xs := by simpa [mat] using hx.symm
                subst this
                exact hrow
              · rw [upd_ne _ _ hkn] at hk
                obtain ⟨q1, q2⟩ := cutB_some hk
                have hx' : h[k]? = some x := by rw [← hx]; exact (List.getElem?_append_left q1).symm
                rcases hI.tot k q1 with ⟨b0, hb0⟩ | ⟨t, cs, h1, h2⟩
                · refine tr_OR (β := β) (w := w) (h := h) (β' := β') (h' := h') hA (fun o b0 ho => ?_) (hI.ob k b0 x hb0 hx') (hI'.ob k c x q2 (by rw [take_get ht q1]; exact hx'))
                  have hlt := (hI.lt o b0 ho).1
                  have hne : o ≠ h.length := by omega
                  refine ⟨?_, ?_⟩
                  · rw [upd_ne _ _ hne]; unfold cutB; rw [if_pos hlt]
                  · rw [take_get ht hlt]; exact List.getElem?_append_left hlt
                · rw [hx'] at h1; injection h1 with h1; subst h1
                  obtain ⟨vs, g1, g2⟩ := hI'.ob k c (.box t cs) q2 (by rw [take_get ht q1]; exact hx')
                  exact ⟨vs, g1, tr_nrs hA h2 g2⟩
            · exact tot_snoc hI1.tot _ _
            · refine .row (upd_self _ _ _) hcp (fun h => by cases h) (.inl (last_get _ _)) (Nat.le_refl _) (fun _ => ⟨by omega, fun h0 => ?_, fun _ => ⟨ka, fun _ _ => ⟨cur, hcur, hcsz⟩⟩⟩)
              rw [ka]; simp
          · cases ho'
        · exact cut ht (fz1_ok hI' (fun o ho => take_get ht ho) hd1 hz').2.2.2
      · injection hf with e1 e2; subst e1; subst e2; exact plain hd1
    · injection hf with e1 e2; subst e1; subst e2; exact plain hd1
  · rename_i hne
    have hv : valOf vs = .tuple vs.toArray := by
      unfold valOf
      split
      · rename_i v
        cases hR with
        | cons hd hs => cases hs; exact absurd rfl (hne _)
      · rfl
    have htup : RV β' w' h' (.tup ds) (valOf vs) := by rw [hv]; exact .tup hR
    split at hf
    · rename_i ht
      split at hf
      · rename_i vs' h2 hz
        injection hf with e1 e2; subst e1; subst e2
        refine cut ht ?_
        rw [hv]
        exact .tup (fzT_ok hI' (fun o ho => take_get ht ho) hR hz)
      · injection hf with e1 e2; subst e1; subst e2; exact plain htup
    · injection hf with e1 e2; subst e1; subst e2; exact plain htup
end
end Go.Proofs.YtfgnefnpfgdliaaDoor
