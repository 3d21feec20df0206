/- Regions and all other code: what the ideal machine says is what the model does. -/
import Derived.Test.YtfgnefnpfgdliaaDoorEngR
import Derived.LoopN
import Derived.Scope
namespace Go.Proofs.YtfgnefnpfgdliaaDoor
open Go.RowKit
set_option linter.unusedVariables false
set_option linter.unusedSimpArgs false

section
variable {P : Program} {call : CallF} {nt : Nat}

theorem cvOpers_spec {ops : List Oper} : ∀ {l : List Oper} {xs : List XOper}, cvOpers P ops l = some xs → l.length = xs.length ∧ ∀ (i : Nat) o, l[i]? = some o → ∃ x, xs[i]? = some x ∧ cvOp P o.op = some x.op ∧ o.dst = x.dst ∧ cvGuard ops o.guard = some x.guard
  | [], xs, h => by
    simp [cvOpers] at h; subst h
    exact ⟨rfl, fun i o ho => by simp at ho⟩
  | o :: l, xs, h => by
    unfold cvOpers at h
    split at h
    · rename_i x r h1 h2
      injection h with h; subst h
      obtain ⟨q1, q2⟩ := cvOpers_spec h2
      refine ⟨by simp [q1], fun i p hp => ?_⟩
      cases i with
      | zero =>
        simp at hp; subst hp
        unfold cvOper at h1
        split at h1
        · rename_i y g h3 h4
          injection h1 with h1; subst h1
          exact ⟨_, rfl, h3, rfl, h4⟩
        · cases h1
      | succ i => exact q2 i p (by simpa using hp)
    · cases h
theorem setGr_spec {xs : List XOper} {B : List Nat} {i : Nat} {x : XOper} (hx : xs[i]? = some x) : ∃ g, (setGr xs B)[i]? = some { x with gr := g } := by
  unfold setGr
  refine ⟨isGr xs B i x, ?_⟩
  simp [List.getElem?_map, List.getElem?_zipIdx, hx]
theorem setGr_length (xs : List XOper) (B : List Nat) : (setGr xs B).length = xs.length := by simp [setGr]

/-! ### In the text's order -/
theorem text_region (hc : CallOk P call) {ops : Array Oper} {β0 : Bm} {w0 : World} {h0 : Heap} (hI0 : Inv β0 w0 h0) {D : List Deferred} {e' : Env} {h' : Heap} {Q : Exit → Act → World → Prop}
    (hQ : ∀ β' w' a', Ext β0 w0 h0 β' w' h' → Inv β' w' h' → ER β' w' h' e' a' → a'.tmps.size = nt → a'.defers = D → Q .normal a' w') :
    ∀ {l : List Oper} {xs : List XOper} {e : Env} {h : Heap} {a : Act} {w : World} {β : Bm}, l.length = xs.length → (∀ (i : Nat) o, l[i]? = some o → ∃ x, xs[i]? = some x ∧ cvOp P o.op = some x.op ∧ o.dst = x.dst ∧ cvGuard ops.toList o.guard = some x.guard ∧ ∀ d, o.dst = some d → d < nt) →
    evOps call xs e h = some (e', h') → Ext β0 w0 h0 β w h → Inv β w h → ER β w h e a → a.tmps.size = nt → a.defers = D → wpList P ops Q l a w
  | [], xs, e, h, a, w, β, hl, hm, hev, hX, hI, hE, hs, hD => by
    obtain rfl : xs = [] := by cases xs with | nil => rfl | cons => simp at hl
    unfold evOps at hev
    obtain ⟨rfl, rfl⟩ := some_pair hev
    exact hQ β w a hX hI hE hs hD
  | o :: l, [], e, h, a, w, β, hl, hm, hev, hX, hI, hE, hs, hD => by simp at hl
  | o :: l, x :: xs, e, h, a, w, β, hl, hm, hev, hX, hI, hE, hs, hD => by
    obtain ⟨x', hx', hop, hdst, hgd, hnt⟩ := hm 0 o rfl
    simp at hx'; subst hx'
    unfold evOps at hev
    split at hev
    case h_2 => cases hev
    rename_i d h1 hd
    have rest : ∀ v w' β', Ext β w h β' w' h1 → Inv β' w' h1 → RV β' w' h1 d v → wpList P ops Q l (a.put o.dst v) w' := by
      intro v w' β' q1 q2 q3
      refine text_region hc hI0 hQ (by simpa using hl) (fun i p hp => hm (i + 1) p (by simpa using hp)) hev (Ext.trans hI0 hX q1) q2 (fun s => ?_) ?_ ?_
      · rw [lk_put]
        cases hdd : o.dst with
        | none =>
          rw [if_neg (by rw [← hdst, hdd]; simp)]
          exact RV.ext q1 (hE s)
        | some t =>
          rw [getD_put (by rw [hs]; exact hnt t hdd), ← hdst, hdd]
          by_cases hts : t = s
          · subst hts; rw [if_pos rfl, if_pos rfl]; exact q3
          · rw [if_neg hts, if_neg (by simpa using hts)]; exact RV.ext q1 (hE s)
      · cases o.dst <;> simpa [Act.put] using hs
      · have : (a.put o.dst v).defers = a.defers := by cases o.dst <;> rfl
        rw [this]; exact hD
    have hwant : ∀ b, wanted x.guard e = some b → Region.wanted o (yielded ops a.tmps) = b := fun b hb => wanted_ok (β := β) (w := w) (h := h) hgd (fun s q hq => hE s) hb
    unfold wpList
    unfold evOp at hd
    split at hd
    · cases hd
    · rename_i hw
      obtain ⟨e1, e2⟩ := some_pair hd
      rw [if_neg (by rw [hwant false hw]; simp)]
      subst e2
      exact rest undef w β (Ext.refl _ _ _) hI (by rw [← e1]; exact .tup .nil)
    · rename_i hw
      rw [if_pos (hwant true hw)]
      split at hd
      case h_2 => cases hd
      rename_i d' h2 hd'
      split at hd
      · cases hd
      obtain ⟨rfl, rfl⟩ := some_pair hd
      exact .inl (good_step hc hI hE hop hd' rest)

/-! ### In any order -/
theorem draw_any (hc : CallOk P call) {xs : List XOper} {Ev : Nat → Env} {Hv : Nat → Heap} {Dv : Nat → DV} (hT : TextRun call xs Ev Hv Dv) {ops : Array Oper} (hcv : Conv P nt ops.toList xs) {Es : List (List Nat)} (hEs : Es = ops.toList.map edgesOf) (hok : drawOk Es xs (befs Es []) = true)
    {β0 : Bm} {w0 : World} (h0 : Inv β0 w0 (Hv 0)) {D : List Deferred} {Q : Exit → Act → World → Prop}
    (hQ : ∀ β' w' a', Ext β0 w0 (Hv 0) β' w' (Hv xs.length) → Inv β' w' (Hv xs.length) → ER β' w' (Hv xs.length) (Ev xs.length) a' → a'.tmps.size = nt → a'.defers = D → Q .normal a' w') :
    ∀ (fuel : Nat) (listed : Array Bool) (a : Act) (w : World) (β : Bm) (c : Nat), listed.size = ops.size → ((List.range ops.size).filter fun i => !listed.getD i true).length ≤ fuel → Closed Es (fun i => listed[i]? = some true) →
      DSt xs Ev Hv Dv β0 w0 nt D (fun i => listed[i]? = some true) a w β c → wpAny P .any ops Q fuel listed a w := by
  have hln : ops.size = xs.length := by have := hcv.1; simpa using this
  have edge : ∀ (j : Nat) es, Es[j]? = some es → ∀ k ∈ es, k < j := by
    intro j es he k hk
    have hj := (List.getElem?_eq_some_iff.1 he).1
    rw [hEs, List.length_map, Array.length_toList, hln] at hj
    obtain ⟨y, hy⟩ : ∃ y, xs[j]? = some y := ⟨xs[j], by simp⟩
    have := (allOk_spec hok j es y he hy).1 k hk
    omega
  have esOf : ∀ (j : Nat) o, ops[j]? = some o → Es[j]? = some (edgesOf o) := by
    intro j o ho
    rw [hEs, List.getElem?_map, Array.getElem?_toList, ho]; rfl
  -- none ready: all have come up
  have allUp : ∀ listed : Array Bool, listed.size = ops.size → Region.ready .any ops listed = [] → ∀ i, i < ops.size → listed[i]? = some true := by
    intro listed hsz hr i
    induction i using Nat.strongRecOn with
    | _ i ih =>
      intro hi
      refine Classical.byContradiction fun hne => ?_
      have hli : listed.getD i true = false := by
        rw [Array.getD_eq_getD_getElem?]
        have : listed[i]? = some listed[i] := Array.getElem?_eq_getElem (by omega)
        rw [this] at hne ⊢
        cases hb : listed[i] with
        | true => rw [hb] at hne; exact absurd rfl hne
        | false => rfl
      obtain ⟨o, ho⟩ : ∃ o, ops[i]? = some o := ⟨ops[i], by simp [hi]⟩
      have hmem : i ∈ Region.ready .any ops listed := by
        unfold Region.ready
        rw [List.mem_filter]
        refine ⟨List.mem_range.2 hi, ?_⟩
        rw [hli, ho]
        simp only [Bool.not_false, Bool.true_and, Option.map_some, Option.getD_some]
        rw [Array.all_eq_true_iff_forall_mem]
        intro e he
        by_cases hb : Region.binds .any e = true
        · have hk : e.on ∈ edgesOf o := List.mem_map.2 ⟨e, List.mem_filter.2 ⟨Array.mem_toList_iff.2 he, hb⟩, rfl⟩
          have hlt := edge i _ (esOf i o ho) e.on hk
          have := ih e.on hlt (by omega)
          rw [Array.getD_eq_getD_getElem?, this]
          simp
        · simp [hb]
      rw [hr] at hmem
      cases hmem
  have finish : ∀ (listed : Array Bool) (a : Act) (w : World) (β : Bm) (c : Nat), listed.size = ops.size → (∀ i, i < ops.size → listed[i]? = some true) → DSt xs Ev Hv Dv β0 w0 nt D (fun i => listed[i]? = some true) a w β c → Q .normal a w := by
    intro listed a w β c hsz hall hS
    have hH : Hv xs.length = Hv c := by
      have hq : ∀ q, c ≤ q → q ≤ xs.length → Hv q = Hv c := by
        intro q
        induction q with
        | zero => intro h1 _; have : c = 0 := by omega
                  subst this; rfl
        | succ q ih =>
          intro h1 h2
          by_cases hcq : c = q + 1
          · rw [hcq]
          · obtain ⟨x, hx⟩ : ∃ x, xs[q]? = some x := ⟨xs[q], by simp⟩
            rw [hT.quiet hx (hS.todo q x (by omega) hx (hall q (by omega))), ih (by omega) (by omega)]
      exact hq _ hS.le (Nat.le_refl _)
    rw [hH] at hQ
    refine hQ β w a hS.ext hS.inv (fun s => ?_) hS.size hS.defers
    rcases hT.lk s xs.length (Nat.le_refl _) with ⟨i, x, h1, h2, h3, h4, h5⟩ | ⟨h1, h2⟩
    · rw [h4]; exact hS.set i x s (hall i (by omega)) h2 h3
    · rw [h2]; exact hS.old s (fun i x _ hx => h1 i x (List.getElem?_eq_some_iff.1 hx).1 hx)
  intro fuel
  induction fuel with
  | zero =>
    intro listed a w β c hsz hf hcl hS
    have hall : ∀ i, i < ops.size → listed[i]? = some true := by
      intro i hi
      have hnil := List.length_eq_zero_iff.1 (Nat.le_zero.1 hf)
      refine Classical.byContradiction fun hne => ?_
      have : i ∈ (List.range ops.size).filter fun i => !listed.getD i true := by
        rw [List.mem_filter]
        refine ⟨List.mem_range.2 hi, ?_⟩
        rw [Array.getD_eq_getD_getElem?]
        have : listed[i]? = some listed[i] := Array.getElem?_eq_getElem (by omega)
        rw [this] at hne ⊢
        cases hb : listed[i] with
        | true => rw [hb] at hne; exact absurd rfl hne
        | false => rfl
      rw [hnil] at this
      cases this
    refine ⟨?_, finish listed a w β c hsz hall hS⟩
    unfold Region.ready
    rw [List.filter_eq_nil_iff]
    intro i hi
    rw [Array.getD_eq_getD_getElem?, hall i (List.mem_range.1 hi)]
    simp
  | succ fuel ih =>
    intro listed a w β c hsz hf hcl hS
    refine ⟨fun hr => finish listed a w β c hsz (allUp listed hsz hr) hS, fun i hi => ?_⟩
    unfold Region.ready at hi
    rw [List.mem_filter] at hi
    obtain ⟨hir, hcond⟩ := hi
    have hin := List.mem_range.1 hir
    obtain ⟨o, ho⟩ : ∃ o, ops[i]? = some o := ⟨ops[i], by simp [hin]⟩
    rw [ho] at hcond
    simp only [Option.map_some, Option.getD_some, Bool.and_eq_true, Bool.not_eq_true'] at hcond
    obtain ⟨hli, hedges⟩ := hcond
    have hnl : ¬ listed[i]? = some true := by
      intro h; rw [Array.getD_eq_getD_getElem?, h] at hli; simp at hli
    have hready : ∀ es, Es[i]? = some es → ∀ k ∈ es, listed[k]? = some true := by
      intro es he k hk
      rw [esOf i o ho] at he
      injection he with he; subst he
      obtain ⟨e, he, rfl⟩ := List.mem_map.1 hk
      rw [List.mem_filter] at he
      rw [Array.all_eq_true_iff_forall_mem] at hedges
      have := hedges e (Array.mem_toList_iff.1 he.1)
      rw [he.2] at this
      simp only [Bool.not_true, Bool.false_or] at this
      rw [Array.getD_eq_getD_getElem?] at this
      cases hq : listed[e.on]? with
      | none => rw [hq] at this; cases this
      | some b => rw [hq] at this; simp at this; rw [this]
    have hset : ∀ k, (listed.setIfInBounds i true)[k]? = some true ↔ (listed[k]? = some true ∨ k = i) := by
      intro k
      rw [Array.getElem?_setIfInBounds]
      by_cases hki : i = k
      · subst hki; simp; omega
      · simp [hki, Ne.symm hki]
    refine draw_step hc hT hcv (B := befs Es []) rfl (by rw [hEs, List.length_map, Array.length_toList, hln]) hok h0 hcl hnl (by omega) hready hS (fun a' w' β' c' hS' => ?_)
    have hLeq : (fun k => (listed.setIfInBounds i true)[k]? = some true) = fun k => listed[k]? = some true ∨ k = i := funext fun k => propext (hset k)
    refine ih (listed.setIfInBounds i true) a' w' β' c' (by simpa using hsz) ?_ ?_ (by rw [hLeq]; exact hS')
    · have hlt : (((List.range ops.size).filter fun i => !listed.getD i true).filter fun k => k != i).length < ((List.range ops.size).filter fun i => !listed.getD i true).length := by
        rw [List.length_filter_lt_length_iff_exists]
        exact ⟨i, List.mem_filter.2 ⟨hir, by rw [hli]; rfl⟩, by simp⟩
      have heq : ((List.range ops.size).filter fun k => !(listed.setIfInBounds i true).getD k true) = (((List.range ops.size).filter fun i => !listed.getD i true).filter fun k => k != i) := by
        rw [List.filter_filter]
        refine List.filter_congr fun k hk => ?_
        rw [Array.getD_eq_getD_getElem?, Array.getElem?_setIfInBounds, Array.getD_eq_getD_getElem?]
        by_cases hki : i = k
        · subst hki; simp [hsz, List.mem_range.1 hk]
        · simp [hki, Ne.symm hki]
      rw [heq]; omega
    · rw [hLeq]
      intro j es hj he k hk
      rcases hj with hj | rfl
      · exact .inl (hcl j es hj he k hk)
      · exact .inl (hready es he k hk)
end
end Go.Proofs.YtfgnefnpfgdliaaDoor
