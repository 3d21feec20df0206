/- The end of a call: results that lead to nothing new; and functions. -/
import Derived.Test.YtfgnefnpfgdliaaDoorEngT
namespace Go.Proofs.YtfgnefnpfgdliaaDoor
open Go.RowKit
set_option linter.unusedVariables false
set_option linter.unusedSimpArgs false

theorem mat_other {d : DV} {h : Heap} (hd : ∀ e sz xs, d ≠ .fresh e sz xs) : mat d h = (d, h) := by
  cases d <;> first | rfl | exact absurd rfl (hd _ _ _)
theorem mat_of_rv {β : Bm} {w : World} {h h2 : Heap} {d : DV} {v : Value} (hr : RV β w h d v) : mat d h2 = (d, h2) :=
  mat_other (fun e sz xs hd => by subst hd; cases hr)

theorem nr_flat {xs : List DV} (hn : ∀ x ∈ xs, Nr x) : ∀ c ∈ flat xs, Nr c := by
  intro c hc
  obtain ⟨x, hx, hcx⟩ := List.mem_flatMap.1 hc
  have := hn x hx
  cases x <;> simp only [DV.cells, List.mem_singleton] at hcx <;> try (subst hcx; exact this)
  cases this with
  | agg h => exact h c hcx
theorem set_ag {hc h : Heap} {n o : Nat} {x : HO} (hge : ¬ o < n) (hag : ∀ k, k < n → hc[k]? = h[k]?) : ∀ k, k < n → (hc.set o x)[k]? = h[k]? := fun k hk => by rw [List.getElem?_set_ne (by omega)]; exact hag k hk
section
variable {β β' βf : Bm} {w w' : World} {h h' hf : Heap}

theorem away_mono (hA : ∀ o b, βf o = some b → β' o = some b ∧ hf[o]? = h'[o]?) {b : Nat} (ha : Away β' h' b) : Away βf hf b := by
  intro o ho
  obtain ⟨q1, q2⟩ := hA o b ho
  rw [q2]
  exact ha o q1
mutual
theorem tr_nr (hA : ∀ b, Away β' h' b → Away βf hf b) : ∀ {d v}, Nr d → RV β' w' h' d v → RV βf w' hf d v
  | _, _, _, .bool b => .bool b
  | _, _, _, .int k n => .int k n
  | _, _, _, .str s => .str s
  | _, _, _, .nilp => .nilp
  | _, _, hn, .ref _ _ => by cases hn
  | _, _, hn, .elem _ _ => by cases hn
  | _, _, _, .nils => .nils
  | _, _, _, .list hn hc hcc hnr hw hr ha => .list hn hc hcc hnr hw (tr_nrs hA (nr_flat hnr) hr) (fun j v hj => ⟨hA _ (ha j v hj).1, (ha j v hj).2⟩)
  | _, _, hn, .row _ _ _ _ _ _ => by cases hn
  | _, _, _, .nilm => .nilm
  | _, _, hn, .map _ _ => by cases hn
  | _, _, _, .nilf => .nilf
  | _, _, hn, .func ha hb => by
    cases hn
    cases ha; cases hb
    exact .func .nil .nil
  | _, _, _, .nili => .nili
  | _, _, hn, .ifc hd => by
    cases hn
    cases hd
    exact .ifc (.int _ _)
  | _, _, hn, .agg hr => .agg (tr_nrs hA (by cases hn with | agg h => exact h) hr)
  | _, _, hn, .tup hr => by cases hn
  | _, _, hn, .undef v => by cases hn
theorem tr_nrs (hA : ∀ b, Away β' h' b → Away βf hf b) : ∀ {ds vs}, (∀ d ∈ ds, Nr d) → RVs β' w' h' ds vs → RVs βf w' hf ds vs
  | _, _, _, .nil => .nil
  | _, _, hn, .cons hd hs => .cons (tr_nr hA (hn _ (by simp)) hd) (tr_nrs hA (fun d hd => hn d (by simp [hd])) hs)
end

mutual
theorem tr_old (hA : ∀ b, Away β' h' b → Away βf hf b) (hβ : ∀ o b0, β o = some b0 → βf o = β' o ∧ hf[o]? = h'[o]?) : ∀ {d v0 v}, RV β w h d v0 → RV β' w' h' d v → RV βf w' hf d v
  | _, _, _, _, .bool b => .bool b
  | _, _, _, _, .int k n => .int k n
  | _, _, _, _, .str s => .str s
  | _, _, _, _, .nilp => .nilp
  | _, _, _, .ref hb0 _, .ref hb ho => by
    obtain ⟨q1, q2⟩ := hβ _ _ hb0
    exact .ref (q1.trans hb) (q2.trans ho)
  | _, _, _, .elem hd0 _, .elem hd hi => .elem (tr_old hA hβ hd0 hd) hi
  | _, _, _, _, .nils => .nils
  | _, _, _, _, .list hn hc hcc hnr hw hr ha => .list hn hc hcc hnr hw (tr_nrs hA (nr_flat hnr) hr) (fun j v hj => ⟨hA _ (ha j v hj).1, (ha j v hj).2⟩)
  | _, _, _, .row hb0 _ _ _ _ _, .row hb hc hcc ho hg hs => by
    obtain ⟨q1, q2⟩ := hβ _ _ hb0
    refine .row (q1.trans hb) hc hcc (by rw [q2]; exact ho) hg (fun hgg => ?_)
    obtain ⟨k1, k2, k3⟩ := hs hgg
    exact ⟨k1, k2, fun hlo => ⟨(k3 hlo).1, fun hcf hrw => (k3 hlo).2 hcf (by rw [← q2]; exact hrw)⟩⟩
  | _, _, _, _, .nilm => .nilm
  | _, _, _, .map hb0 _, .map hb ho => by
    obtain ⟨q1, q2⟩ := hβ _ _ hb0
    exact .map (q1.trans hb) (q2.trans ho)
  | _, _, _, _, .nilf => .nilf
  | _, _, _, .func ha0 hb0, .func ha hb => .func (tr_olds hA hβ ha0 ha) (tr_olds hA hβ hb0 hb)
  | _, _, _, _, .nili => .nili
  | _, _, _, .ifc hd0, .ifc hd => .ifc (tr_old hA hβ hd0 hd)
  | _, _, _, .agg hr0, .agg hr => .agg (tr_olds hA hβ hr0 hr)
  | _, _, _, .tup hr0, .tup hr => .tup (tr_olds hA hβ hr0 hr)
  | _, _, _, _, .undef v => .undef v
theorem tr_olds (hA : ∀ b, Away β' h' b → Away βf hf b) (hβ : ∀ o b0, β o = some b0 → βf o = β' o ∧ hf[o]? = h'[o]?) : ∀ {ds vs0 vs}, RVs β w h ds vs0 → RVs β' w' h' ds vs → RVs βf w' hf ds vs
  | _, _, _, .nil, .nil => .nil
  | _, _, _, .cons hd0 hs0, .cons hd hs => .cons (tr_old hA hβ hd0 hd) (tr_olds hA hβ hs0 hs)
end
theorem tr_OR (hA : ∀ b, Away β' h' b → Away βf hf b) (hβ : ∀ o b0, β o = some b0 → βf o = β' o ∧ hf[o]? = h'[o]?) {b0 b : Nat} {x : HO} (h0 : OR β w h b0 x) (h1 : OR β' w' h' b x) : OR βf w' hf b x := by
  have row : ∀ {e sz xs}, RowAt β w h b0 e sz xs → RowAt β' w' h' b e sz xs → RowAt βf w' hf b e sz xs := by
    rintro e sz xs ⟨c0, C0, _, _, _, _, _, _, p7⟩ ⟨c1, C1, q1, q2, q3, q4, q5, q6, q7⟩
    exact ⟨c1, C1, q1, q2, q3, q4, q5, q6, tr_olds hA hβ p7 q7⟩
  cases x with
  | box t cs =>
    obtain ⟨vs0, _, p2⟩ := h0
    obtain ⟨vs, q1, q2⟩ := h1
    exact ⟨vs, q1, tr_olds hA hβ p2 q2⟩
  | row e sz g xs => exact row h0 h1
  | frz e sz g xs => exact row h0 h1
  | map kt et es =>
    obtain ⟨m0, c0, _, p2, p3⟩ := h0
    obtain ⟨ms, clk, q1, q2, q3⟩ := h1
    exact ⟨ms, clk, q1, tr_olds hA hβ p2 q2, tr_olds hA hβ p3 q3⟩

/-- Only the numbers below n. -/
def cutB (β : Bm) (n : Nat) : Bm := fun o => if o < n then β o else none
theorem cutB_some {n o b : Nat} (hb : cutB β n o = some b) : o < n ∧ β o = some b := by
  unfold cutB at hb
  split at hb
  · rename_i h; exact ⟨h, hb⟩
  · cases hb

section
variable {n : Nat} {hc hc' : Heap}
theorem cut_away (hag : ∀ o, o < n → hc[o]? = h[o]?) : ∀ b, Away β' hc b → Away (cutB β' n) h b := by
  intro b ha
  refine away_mono (β' := β') (h' := hc) (fun o b ho => ?_) ha
  obtain ⟨q1, q2⟩ := cutB_some ho
  exact ⟨q2, (hag o q1).symm⟩
theorem fz0_ok (hI : Inv β' w' hc) (hag : ∀ o, o < n → hc[o]? = h[o]?) {d d' : DV} {v : Value} (hr : RV β' w' hc d v) (hz : fz0 n hc false d = some (d', hc')) :
    Inv β' w' hc' ∧ (∀ {ds vs}, RVs β' w' hc ds vs → RVs β' w' hc' ds vs) ∧ (∀ o, o < n → hc'[o]? = h[o]?) ∧ RV (cutB β' n) w' h d' v := by
  have hA := cut_away (β' := β') (h := h) hag
  have same : ∀ {x}, Nr x → RV β' w' hc x v → hc = hc' → Inv β' w' hc' ∧ (∀ {ds vs}, RVs β' w' hc ds vs → RVs β' w' hc' ds vs) ∧ (∀ o, o < n → hc'[o]? = h[o]?) ∧ RV (cutB β' n) w' h x v := by
    rintro x hn hx rfl
    exact ⟨hI, fun h => h, hag, tr_nr hA hn hx⟩
  cases d <;> simp only [fz0] at hz
  case bool b => obtain ⟨rfl, hh⟩ := some_pair hz; exact same (.bool _) hr hh
  case int k i => obtain ⟨rfl, hh⟩ := some_pair hz; exact same (.int _ _) hr hh
  case str k => obtain ⟨rfl, hh⟩ := some_pair hz; exact same (.str _) hr hh
  case nilp => obtain ⟨rfl, hh⟩ := some_pair hz; exact same .nilp hr hh
  case nils => obtain ⟨rfl, hh⟩ := some_pair hz; exact same .nils hr hh
  case nilm => obtain ⟨rfl, hh⟩ := some_pair hz; exact same .nilm hr hh
  case nilf => obtain ⟨rfl, hh⟩ := some_pair hz; exact same .nilf hr hh
  case nili => obtain ⟨rfl, hh⟩ := some_pair hz; exact same .nili hr hh
  case list sz xs c =>
    obtain ⟨rfl, hh⟩ := some_pair hz
    refine same (.list ?_) hr hh
    cases hr with
    | list hn hc hcc hnr => exact hnr
  case ifc t x =>
    split at hz
    all_goals first
      | (rename_i heq; cases heq; done)
      | (rename_i heq; injection heq with e1 e2; subst e1; subst e2; obtain ⟨rfl, hh⟩ := some_pair hz; exact same (.ifc _ _ _) hr hh)
      | cases hz
  case func f a b =>
    split at hz
    all_goals first
      | (rename_i heq; cases heq; done)
      | (rename_i heq; injection heq with e1 e2 e3; subst e1; subst e2; subst e3; obtain ⟨rfl, hh⟩ := some_pair hz; exact same (.func _) hr hh)
      | cases hz
  case ref o p =>
    split at hz
    · rename_i hlt
      obtain ⟨rfl, rfl⟩ := some_pair hz
      refine ⟨hI, fun h => h, hag, ?_⟩
      cases hr with
      | ref hb ho => exact .ref (by unfold cutB; rw [if_pos hlt]; exact hb) (by rw [← hag o hlt]; exact ho)
    · cases hz
  case map o =>
    split at hz
    · rename_i hlt
      obtain ⟨rfl, rfl⟩ := some_pair hz
      refine ⟨hI, fun h => h, hag, ?_⟩
      cases hr with
      | map hb ho => exact .map (by unfold cutB; rw [if_pos hlt]; exact hb) (by rw [← hag o hlt]; exact ho)
    · cases hz
  case row o g lo m c =>
    cases hr with
    | row hb hcp hcc ho hg hs =>
    split at hz
    · rename_i hlt
      obtain ⟨rfl, rfl⟩ := some_pair hz
      refine ⟨hI, fun h => h, hag, ?_⟩
      refine .row (by unfold cutB; rw [if_pos hlt]; exact hb) hcp hcc (by rw [← hag o hlt]; exact ho) hg (fun hgg => ?_)
      obtain ⟨k1, k2, k3⟩ := hs hgg
      exact ⟨k1, k2, fun hlo => ⟨(k3 hlo).1, fun hcf hrw => (k3 hlo).2 hcf (by rw [hag o hlt]; exact hrw)⟩⟩
    · rename_i hge
      rcases ho with ho | ho
      · rw [ho] at hz
        simp only at hz
        split at hz
        · rename_i hq
          obtain ⟨rfl, hl, hnr⟩ := hq
          split at hz
          · rename_i hbad; exact absurd hbad.1 (by simp)
          · obtain ⟨rfl, rfl⟩ := some_pair hz
            have he := Ext.freeze hI hb ho
            have hi := Inv.freeze hI hb ho
            exact ⟨hi, fun h => RVs.ext he h, set_ag hge hag, tr_nr (cut_away (set_ag hge hag)) (.list (nr_sub hnr)) (frz_list hi hb (List.getElem?_set_self (hI.lt _ _ hb).1) hcp hcc hl (hs rfl).2.1 hnr)⟩
        · cases hz
      · rw [ho] at hz
        simp only at hz
        split at hz
        · rename_i hq
          obtain ⟨rfl, hl, hnr⟩ := hq
          obtain ⟨rfl, rfl⟩ := some_pair hz
          exact ⟨hI, fun h => h, hag, tr_nr hA (.list (nr_sub hnr)) (frz_list hI hb ho hcp hcc hl (hs rfl).2.1 hnr)⟩
        · cases hz
  all_goals cases hz
theorem fzL_ok : ∀ {ds ds' : List DV} {vs : List Value} {hc hc' : Heap}, Inv β' w' hc → (∀ o, o < n → hc[o]? = h[o]?) → RVs β' w' hc ds vs → fzL n ds hc = some (ds', hc') →
    Inv β' w' hc' ∧ (∀ {ds vs}, RVs β' w' hc ds vs → RVs β' w' hc' ds vs) ∧ (∀ o, o < n → hc'[o]? = h[o]?) ∧ RVs (cutB β' n) w' h ds' vs
  | [], ds', vs, hc, hc', hI, hag, hr, hz => by
    cases hr
    simp only [fzL] at hz
    obtain ⟨rfl, rfl⟩ := some_pair hz
    exact ⟨hI, fun h => h, hag, .nil⟩
  | d :: ds, ds', vs, hc, hc', hI, hag, hr, hz => by
    cases hr with
    | cons hd hs =>
      simp only [fzL] at hz
      split at hz
      · rename_i d' h1 h0
        split at hz
        · rename_i l' h2 hl
          obtain ⟨rfl, rfl⟩ := some_pair hz
          obtain ⟨q1, q2, q3, q4⟩ := fz0_ok hI hag hd h0
          obtain ⟨p1, p2, p3, p4⟩ := fzL_ok q1 q3 (q2 hs) hl
          exact ⟨p1, fun h => p2 (q2 h), p3, .cons q4 p4⟩
        · cases hz
      · cases hz
theorem fz1_ok (hI : Inv β' w' hc) (hag : ∀ o, o < n → hc[o]? = h[o]?) {d d' : DV} {v : Value} (hr : RV β' w' hc d v) (hz : fz1 n hc false d = some (d', hc')) :
    Inv β' w' hc' ∧ (∀ {ds vs}, RVs β' w' hc ds vs → RVs β' w' hc' ds vs) ∧ (∀ o, o < n → hc'[o]? = h[o]?) ∧ RV (cutB β' n) w' h d' v := by
  unfold fz1 at hz
  split at hz
  · split at hz
    · rename_i cs' h1 hl
      obtain ⟨rfl, rfl⟩ := some_pair hz
      cases hr with
      | agg hrs =>
        obtain ⟨p1, p2, p3, p4⟩ := fzL_ok hI hag hrs hl
        exact ⟨p1, p2, p3, .agg p4⟩
    · cases hz
  · exact fz0_ok hI hag hr hz
theorem fzT_ok : ∀ {ds ds' : List DV} {vs : List Value} {hc hc' : Heap}, Inv β' w' hc → (∀ o, o < n → hc[o]? = h[o]?) → RVs β' w' hc ds vs → fzT n ds hc = some (ds', hc') → RVs (cutB β' n) w' h ds' vs
  | [], ds', vs, hc, hc', hI, hag, hr, hz => by
    cases hr
    simp only [fzT] at hz
    obtain ⟨rfl, rfl⟩ := some_pair hz
    exact .nil
  | d :: ds, ds', vs, hc, hc', hI, hag, hr, hz => by
    cases hr with
    | cons hd hs =>
      simp only [fzT] at hz
      split at hz
      · rename_i d' h1 h0
        split at hz
        · rename_i l' h2 hl
          obtain ⟨rfl, rfl⟩ := some_pair hz
          obtain ⟨q1, q2, q3, q4⟩ := fz1_ok hI hag hd h0
          exact .cons q4 (fzT_ok q1 q3 (q2 hs) hl)
        · cases hz
      · cases hz
end
end
end Go.Proofs.YtfgnefnpfgdliaaDoor
