/- Regions and all other code: what the ideal machine says is what the model does. -/
import Derived.Test.YtfgnefnpfgdliaaDoorEngR
import Derived.LoopN
import Derived.Scope
namespace Go.Proofs.YtfgnefnpfgdliaaDoor
open Go.RowKit
set_option linter.unusedVariables false
set_option linter.unusedSimpArgs false

section
variable {P : Program} {call : CallF} {nt : Nat}

theorem cvOpers_spec {ops : List Oper} : ∀ {l : List Oper} {xs : List XOper}, cvOpers P ops l = some xs → l.length = xs.length ∧ ∀ (i : Nat) o, l[i]? = some o → ∃ x, xs[i]? = some x ∧ cvOp P o.op = some x.op ∧ o.dst = x.dst ∧ cvGuard ops o.guard = some x.guard
  | [], xs, h => by
    simp [cvOpers] at h; subst h
    exact ⟨rfl, fun i o ho => by simp at ho⟩
  | o :: l, xs, h => by
    unfold cvOpers at h
    split at h
    · rename_i x r h1 h2
      injection h with h; subst h
      obtain ⟨q1, q2⟩ := cvOpers_spec h2
      refine ⟨by simp [q1], fun i p hp => ?_⟩
      cases i with
      | zero =>
        simp at hp; subst hp
        unfold cvOper at h1
        split at h1
        · rename_i y g h3 h4
          injection h1 with h1; subst h1
          exact ⟨_, rfl, h3, rfl, h4⟩
        · cases h1
      | succ i => exact q2 i p (by simpa using hp)
    · cases h
theorem setGr_spec {m : Nat} {xs : List XOper} {B : List Nat} {i : Nat} {x : XOper} (hx : xs[i]? = some x) : ∃ g, (setGr m xs B)[i]? = some { x with gr := g } := by
  unfold setGr
  refine ⟨isGr m xs B i x, ?_⟩
  simp [List.getElem?_map, List.getElem?_zipIdx, hx]
theorem setGr_length (m : Nat) (xs : List XOper) (B : List Nat) : (setGr m xs B).length = xs.length := by simp [setGr]

/-! ### In the text's order -/
theorem text_region (hc : CallOk P call) {ops : Array Oper} {β0 : Bm} {w0 : World} {h0 : Heap} (hI0 : Inv β0 w0 h0) {D : List Deferred} {e' : Env} {h' : Heap} {Q : Exit → Act → World → Prop}
    (hQ : ∀ β' w' a', Ext β0 w0 h0 β' w' h' → Inv β' w' h' → ER β' w' h' e' a' → a'.tmps.size = nt → a'.defers = D → Q .normal a' w') :
    ∀ {l : List Oper} {xs : List XOper} {e : Env} {h : Heap} {a : Act} {w : World} {β : Bm}, l.length = xs.length → (∀ (i : Nat) o, l[i]? = some o → ∃ x, xs[i]? = some x ∧ cvOp P o.op = some x.op ∧ o.dst = x.dst ∧ cvGuard ops.toList o.guard = some x.guard ∧ ∀ d, o.dst = some d → d < nt) →
    evOps call xs e h = some (e', h') → Ext β0 w0 h0 β w h → Inv β w h → ER β w h e a → a.tmps.size = nt → a.defers = D → wpList P ops Q l a w
  | [], xs, e, h, a, w, β, hl, hm, hev, hX, hI, hE, hs, hD => by
    obtain rfl : xs = [] := by cases xs with | nil => rfl | cons => simp at hl
    unfold evOps at hev
    obtain ⟨rfl, rfl⟩ := some_pair hev
    exact hQ β w a hX hI hE hs hD
  | o :: l, [], e, h, a, w, β, hl, hm, hev, hX, hI, hE, hs, hD => by simp at hl
  | o :: l, x :: xs, e, h, a, w, β, hl, hm, hev, hX, hI, hE, hs, hD => by
    obtain ⟨x', hx', hop, hdst, hgd, hnt⟩ := hm 0 o rfl
    simp at hx'; subst hx'
    unfold evOps at hev
    split at hev
    case h_2 => cases hev
    rename_i d h1 hd
    have rest : ∀ v w' β', Ext β w h β' w' h1 → Inv β' w' h1 → RV β' w' h1 d v → wpList P ops Q l (a.put o.dst v) w' := by
      intro v w' β' q1 q2 q3
      refine text_region hc hI0 hQ (by simpa using hl) (fun i p hp => hm (i + 1) p (by simpa using hp)) hev (Ext.trans hI0 hX q1) q2 (fun s => ?_) ?_ ?_
      · rw [lk_put]
        cases hdd : o.dst with
        | none =>
          rw [if_neg (by rw [← hdst, hdd]; simp)]
          exact RV.ext q1 (hE s)
        | some t =>
          rw [getD_put (by rw [hs]; exact hnt t hdd), ← hdst, hdd]
          by_cases hts : t = s
          · subst hts; rw [if_pos rfl, if_pos rfl]; exact q3
          · rw [if_neg hts, if_neg (by simpa using hts)]; exact RV.ext q1 (hE s)
      · cases o.dst <;> simpa [Act.put] using hs
      · have : (a.put o.dst v).defers = a.defers := by cases o.dst <;> rfl
        rw [this]; exact hD
    have hwant : ∀ b, wanted x.guard e = some b → Region.wanted o (yielded ops a.tmps) = b := fun b hb => wanted_ok (β := β) (w := w) (h := h) hgd (fun s q hq => hE s) hb
    unfold wpList
    unfold evOp at hd
    split at hd
    · cases hd
    · rename_i hw
      obtain ⟨e1, e2⟩ := some_pair hd
      rw [if_neg (by rw [hwant false hw]; simp)]
      subst e2
      exact rest undef w β (Ext.refl _ _ _) hI (by rw [← e1]; exact .tup .nil)
    · rename_i hw
      rw [if_pos (hwant true hw)]
      split at hd
      case h_2 => cases hd
      rename_i d' h2 hd'
      split at hd
      · cases hd
      obtain ⟨rfl, rfl⟩ := some_pair hd
      exact .inl (good_step hc hI hE hop hd' rest)

/-! ### Boxes ahead of all others -/
theorem nr_zeroish {d : DV} (h : d.zeroish = true) : Nr d := by
  cases d <;> first | (constructor; done) | cases h
def HoleO (x : HO) : Prop := ∃ t cs, x = .box t cs ∧ ∀ c ∈ cs, Nr c
theorem Ext.holes {β : Bm} {w : World} {h : Heap} (hI : Inv β w h) (l : Heap) : Ext β w h β w (h ++ l) where
  os := rfl
  tape := rfl
  output := rfl
  size := Nat.le_refl _
  len := by simp
  keep _ _ _ := rfl
  old _ _ hn := hn
  new _ _ hb := .inl hb
  obj o b y hb hy := later_refl w b β o _ y hb (by rw [List.getElem?_append_left (hI.lt o b hb).1]; exact hy)
theorem Inv.holes {β : Bm} {w : World} {h : Heap} (hI : Inv β w h) {l : Heap} (hl : ∀ x ∈ l, HoleO x) : Inv β w (h ++ l) := by
  refine hI.step (Ext.holes hI l) (fun o b hb => ⟨by have := (hI.lt o b hb).1; simp; omega, (hI.lt o b hb).2⟩) hI.inj (fun o ho => ?_) (fun o b x hb hx => ?_)
  · by_cases h1 : o < h.length
    · rcases hI.tot o h1 with h2 | h2
      · exact .inl h2
      · exact .inr (h2.app l)
    · refine .inr ?_
      have ho' : o - h.length < l.length := by simp at ho; omega
      obtain ⟨t, cs, h2, h3⟩ := hl _ (List.getElem_mem ho')
      exact ⟨t, cs, by rw [List.getElem?_append_right (by omega), List.getElem?_eq_getElem ho', h2], h3⟩
  · have hlt := hI.lt o b hb
    rw [List.getElem?_append_left hlt.1] at hx
    exact .inl ⟨hb, hx, rfl⟩
theorem al_run {x : XOper} (hx : isAl x = true) {e : Env} {h : Heap} {d : DV} {h' : Heap} (hr : evOp call x e h = some (d, h')) : ∃ t cs, x.op = .alloc t cs ∧ (∀ c ∈ cs, Nr c) ∧ d = .ref h.length 0 ∧ h' = h ++ [.box t cs] := by
  unfold isAl at hx
  simp only [Bool.and_eq_true, Option.isNone_iff_eq_none] at hx
  obtain ⟨⟨h1, h2⟩, h3⟩ := hx
  split at h1
  · rename_i t cs hop
    have hw : wanted x.guard e = some true := by rw [h2]; rfl
    unfold evOp at hr
    rw [hw] at hr
    simp only at hr
    have hd : evTo call x.op e h = some (.ref h.length 0, h ++ [.box t cs]) := by
      rw [hop]; rfl
    rw [hd] at hr
    simp only at hr
    split at hr
    · cases hr
    · obtain ⟨rfl, rfl⟩ := some_pair hr
      exact ⟨t, cs, hop, fun c hc => nr_zeroish (List.all_eq_true.1 h1 c hc), rfl, rfl⟩
  · cases h1
theorem lead {xs : List XOper} {Ev : Nat → Env} {Hv : Nat → Heap} {Dv : Nat → DV} (hT : TextRun call xs Ev Hv Dv) {m : Nat} (hm : m ≤ xs.length) (hal : ∀ (i : Nat) x, i < m → xs[i]? = some x → isAl x = true) :
    ∀ i, i ≤ m → ∃ l, Hv i = Hv 0 ++ l ∧ l.length = i ∧ (∀ x ∈ l, HoleO x) ∧ ∀ (k : Nat) x, k < i → xs[k]? = some x → ∃ t cs, x.op = .alloc t cs ∧ l[k]? = some (.box t cs) ∧ Dv k = .ref ((Hv 0).length + k) 0
  | 0, _ => ⟨[], by simp, rfl, by simp, fun k x hk => by omega⟩
  | i + 1, hi => by
    obtain ⟨l, h1, h2, h3, h4⟩ := lead hT hm hal i (by omega)
    obtain ⟨x, hx⟩ : ∃ x, xs[i]? = some x := ⟨xs[i]'(by omega), by simp⟩
    obtain ⟨t, cs, q1, q2, q3, q4⟩ := al_run (hal i x (by omega) hx) (hT.op i x hx)
    refine ⟨l ++ [.box t cs], by rw [q4, h1, List.append_assoc], by simp [h2], fun y hy => ?_, fun k y hk hy => ?_⟩
    · rcases List.mem_append.1 hy with hy | hy
      · exact h3 y hy
      · simp at hy; subst hy; exact ⟨t, cs, rfl, q2⟩
    · by_cases hki : k = i
      · subst hki
        rw [hx] at hy; injection hy with hy; subst hy
        refine ⟨t, cs, q1, by rw [List.getElem?_append_right (by omega), h2]; simp, ?_⟩
        rw [q3, h1, List.length_append, h2]
      · obtain ⟨t', cs', p1, p2, p3⟩ := h4 k y (by omega) hy
        exact ⟨t', cs', p1, by rw [List.getElem?_append_left (by omega)]; exact p2, p3⟩

/-! ### In any order -/
theorem draw_any (hc : CallOk P call) {xs : List XOper} {Ev : Nat → Env} {Hv : Nat → Heap} {Dv : Nat → DV} (hT : TextRun call xs Ev Hv Dv) {ops : Array Oper} {m : Nat} {pm ps : Nat → Nat} (hcv : Conv P nt pm ops.toList xs)
    (hpm : ∀ j, j < ops.size → pm j < ops.size ∧ ps (pm j) = j) (hps : ∀ i, i < ops.size → ps i < ops.size ∧ pm (ps i) = i) (hlt : ∀ (i : Nat) o, ops[i]? = some o → ∀ k ∈ edgesOf o, k < ops.size)
    {Es : List (List Nat)} (hEl : Es.length = xs.length) (hEs : ∀ (j : Nat) o, j < ops.size → ops[pm j]? = some o → Es[j]? = some ((edgesOf o).map ps)) (hok : drawOk m Es xs (befs Es []) = true)
    (hbox : ∀ (i : Nat) x, i < m → xs[i]? = some x → Dv i = .ref ((Hv 0).length + i) 0)
    {β0 : Bm} {w0 : World} (h0 : Inv β0 w0 (Hv 0)) {D : List Deferred} {Q : Exit → Act → World → Prop}
    (hQ : ∀ β' w' a', Ext β0 w0 (Hv 0) β' w' (Hv xs.length) → Inv β' w' (Hv xs.length) → ER β' w' (Hv xs.length) (Ev xs.length) a' → a'.tmps.size = nt → a'.defers = D → Q .normal a' w') :
    ∀ (fuel : Nat) (listed : Array Bool) (a : Act) (w : World) (β : Bm) (c : Nat), listed.size = ops.size → ((List.range ops.size).filter fun i => !listed.getD i true).length ≤ fuel → Closed Es (fun j => j < ops.size ∧ listed[pm j]? = some true) →
      DSt m xs Ev Hv Dv β0 w0 nt D (fun j => j < ops.size ∧ listed[pm j]? = some true) a w β c → wpAny P .any ops Q fuel listed a w := by
  have hln : ops.size = xs.length := by have := hcv.1; simpa using this
  have edge : ∀ (j : Nat) es, Es[j]? = some es → ∀ k ∈ es, k < j := by
    intro j es he k hk
    have hj := (List.getElem?_eq_some_iff.1 he).1
    rw [hEl] at hj
    obtain ⟨y, hy⟩ : ∃ y, xs[j]? = some y := ⟨xs[j], by simp⟩
    have := (allOk_spec hok j es y he hy).1 k hk
    omega
  -- none ready: all have come up
  have allUp : ∀ listed : Array Bool, listed.size = ops.size → Region.ready .any ops listed = [] → ∀ j, j < ops.size → listed[pm j]? = some true := by
    intro listed hsz hr j
    induction j using Nat.strongRecOn with
    | _ j ih =>
      intro hj
      have hi := (hpm j hj).1
      generalize hpi : pm j = i at hi
      refine Classical.byContradiction fun hne => ?_
      have hli : listed.getD i true = false := by
        rw [Array.getD_eq_getD_getElem?]
        have : listed[i]? = some listed[i] := Array.getElem?_eq_getElem (by omega)
        rw [this] at hne ⊢
        cases hb : listed[i] with
        | true => rw [hb] at hne; exact absurd rfl hne
        | false => rfl
      obtain ⟨o, ho⟩ : ∃ o, ops[i]? = some o := ⟨ops[i], by simp [hi]⟩
      have hmem : i ∈ Region.ready .any ops listed := by
        unfold Region.ready
        rw [List.mem_filter]
        refine ⟨List.mem_range.2 hi, ?_⟩
        rw [hli, ho]
        simp only [Bool.not_false, Bool.true_and, Option.map_some, Option.getD_some]
        rw [Array.all_eq_true_iff_forall_mem]
        intro e he
        by_cases hb : Region.binds .any e = true
        · have hk : e.on ∈ edgesOf o := List.mem_map.2 ⟨e, List.mem_filter.2 ⟨Array.mem_toList_iff.2 he, hb⟩, rfl⟩
          have hkn := hlt i o ho e.on hk
          have hq := hps e.on hkn
          have hE := hEs j o hj (by rw [hpi]; exact ho)
          have hlt' := edge j _ hE (ps e.on) (List.mem_map.2 ⟨_, hk, rfl⟩)
          have := ih (ps e.on) hlt' (by omega)
          rw [hq.2] at this
          rw [Array.getD_eq_getD_getElem?, this]
          simp
        · simp [hb]
      rw [hr] at hmem
      cases hmem
  have finish : ∀ (listed : Array Bool) (a : Act) (w : World) (β : Bm) (c : Nat), listed.size = ops.size → (∀ j, j < ops.size → listed[pm j]? = some true) → DSt m xs Ev Hv Dv β0 w0 nt D (fun j => j < ops.size ∧ listed[pm j]? = some true) a w β c → Q .normal a w := by
    intro listed a w β c hsz hall hS
    have hH : Hv xs.length = Hv c := by
      have hq : ∀ q, c ≤ q → q ≤ xs.length → Hv q = Hv c := by
        intro q
        induction q with
        | zero => intro h1 _; have : c = 0 := by omega
                  subst this; rfl
        | succ q ih =>
          intro h1 h2
          by_cases hcq : c = q + 1
          · rw [hcq]
          · obtain ⟨x, hx⟩ : ∃ x, xs[q]? = some x := ⟨xs[q], by simp⟩
            rw [hT.quiet hx (hS.todo q x (by omega) hx ⟨by omega, hall q (by omega)⟩), ih (by omega) (by omega)]
      exact hq _ hS.le (Nat.le_refl _)
    rw [hH] at hQ
    refine hQ β w a hS.ext hS.inv (fun s => ?_) hS.size hS.defers
    rcases hT.lk s xs.length (Nat.le_refl _) with ⟨i, x, h1, h2, h3, h4, h5⟩ | ⟨h1, h2⟩
    · rw [h4]; exact hS.set i x s ⟨by omega, hall i (by omega)⟩ h2 h3
    · rw [h2]; exact hS.old s (fun i x _ hx => h1 i x (List.getElem?_eq_some_iff.1 hx).1 hx)
  intro fuel
  induction fuel with
  | zero =>
    intro listed a w β c hsz hf hcl hS
    have hall : ∀ i, i < ops.size → listed[i]? = some true := by
      intro i hi
      have hnil := List.length_eq_zero_iff.1 (Nat.le_zero.1 hf)
      refine Classical.byContradiction fun hne => ?_
      have : i ∈ (List.range ops.size).filter fun i => !listed.getD i true := by
        rw [List.mem_filter]
        refine ⟨List.mem_range.2 hi, ?_⟩
        rw [Array.getD_eq_getD_getElem?]
        have : listed[i]? = some listed[i] := Array.getElem?_eq_getElem (by omega)
        rw [this] at hne ⊢
        cases hb : listed[i] with
        | true => rw [hb] at hne; exact absurd rfl hne
        | false => rfl
      rw [hnil] at this
      cases this
    refine ⟨?_, finish listed a w β c hsz (fun j hj => hall (pm j) (hpm j hj).1) hS⟩
    unfold Region.ready
    rw [List.filter_eq_nil_iff]
    intro i hi
    rw [Array.getD_eq_getD_getElem?, hall i (List.mem_range.1 hi)]
    simp
  | succ fuel ih =>
    intro listed a w β c hsz hf hcl hS
    refine ⟨fun hr => finish listed a w β c hsz (allUp listed hsz hr) hS, fun i hi => ?_⟩
    unfold Region.ready at hi
    rw [List.mem_filter] at hi
    obtain ⟨hir, hcond⟩ := hi
    have hin := List.mem_range.1 hir
    obtain ⟨hpn, hpi⟩ := hps i hin
    obtain ⟨o, ho⟩ : ∃ o, ops[i]? = some o := ⟨ops[i], by simp [hin]⟩
    rw [ho] at hcond
    simp only [Option.map_some, Option.getD_some, Bool.and_eq_true, Bool.not_eq_true'] at hcond
    obtain ⟨hli, hedges⟩ := hcond
    have hnl : ¬ (ps i < ops.size ∧ listed[pm (ps i)]? = some true) := by
      rw [hpi]
      intro h; rw [Array.getD_eq_getD_getElem?, h.2] at hli; simp at hli
    have hready : ∀ es, Es[ps i]? = some es → ∀ k ∈ es, k < ops.size ∧ listed[pm k]? = some true := by
      intro es he k hk
      rw [hEs (ps i) o hpn (by rw [hpi]; exact ho)] at he
      injection he with he; subst he
      obtain ⟨k0, hk0, rfl⟩ := List.mem_map.1 hk
      have hkn := hlt i o ho k0 hk0
      obtain ⟨e, he, rfl⟩ := List.mem_map.1 hk0
      rw [List.mem_filter] at he
      rw [Array.all_eq_true_iff_forall_mem] at hedges
      have := hedges e (Array.mem_toList_iff.1 he.1)
      rw [he.2] at this
      simp only [Bool.not_true, Bool.false_or] at this
      rw [Array.getD_eq_getD_getElem?] at this
      refine ⟨(hps e.on hkn).1, ?_⟩
      rw [(hps e.on hkn).2]
      cases hq : listed[e.on]? with
      | none => rw [hq] at this; cases this
      | some b => rw [hq] at this; simp at this; rw [this]
    have hset : ∀ k, (k < ops.size ∧ (listed.setIfInBounds i true)[pm k]? = some true) ↔ ((k < ops.size ∧ listed[pm k]? = some true) ∨ k = ps i) := by
      intro k
      by_cases hk : k < ops.size
      · rw [Array.getElem?_setIfInBounds]
        by_cases hki : i = pm k
        · have : k = ps i := by rw [hki]; exact (hpm k hk).2.symm
          subst hki; simp [this.symm, hk, hsz, hin]
        · have : k ≠ ps i := fun h => hki (by rw [h, hpi])
          simp [hki, this]
      · have : k ≠ ps i := fun h => hk (by omega)
        simp [hk, this]
    have hgoal := draw_step hc hT hcv (B := befs Es []) rfl hEl hok hbox h0 hcl hnl (by omega) hready hS (Q := Q) (K := fun a' w' => wpAny P .any ops Q fuel (listed.setIfInBounds i true) a' w') (fun a' w' β' c' hS' => ?_)
    · rw [hpi] at hgoal; exact hgoal
    have hLeq : (fun k => k < ops.size ∧ (listed.setIfInBounds i true)[pm k]? = some true) = fun k => (k < ops.size ∧ listed[pm k]? = some true) ∨ k = ps i := funext fun k => propext (hset k)
    refine ih (listed.setIfInBounds i true) a' w' β' c' (by simpa using hsz) ?_ ?_ (by rw [hLeq]; exact hS')
    · have hlt : (((List.range ops.size).filter fun i => !listed.getD i true).filter fun k => k != i).length < ((List.range ops.size).filter fun i => !listed.getD i true).length := by
        rw [List.length_filter_lt_length_iff_exists]
        exact ⟨i, List.mem_filter.2 ⟨hir, by rw [hli]; rfl⟩, by simp⟩
      have heq : ((List.range ops.size).filter fun k => !(listed.setIfInBounds i true).getD k true) = (((List.range ops.size).filter fun i => !listed.getD i true).filter fun k => k != i) := by
        rw [List.filter_filter]
        refine List.filter_congr fun k hk => ?_
        rw [Array.getD_eq_getD_getElem?, Array.getElem?_setIfInBounds, Array.getD_eq_getD_getElem?]
        by_cases hki : i = k
        · subst hki; simp [hsz, List.mem_range.1 hk]
        · simp [hki, Ne.symm hki]
      rw [heq]; omega
    · rw [hLeq]
      intro j es hj he k hk
      rcases hj with hj | rfl
      · exact .inl (hcl j es hj he k hk)
      · exact .inl (hready es he k hk)

/-! ### What drawE has looked at -/
structure Drawn (ops : List Oper) (xs xs' : List XOper) (m : Nat) (pm ps : Nat → Nat) (Es : List (List Nat)) : Prop where
  len : xs'.length = xs.length
  mle : m ≤ xs.length
  hpm : ∀ j, j < xs.length → pm j < xs.length ∧ ps (pm j) = j
  hps : ∀ i, i < xs.length → ps i < xs.length ∧ pm (ps i) = i
  lt : ∀ (i : Nat) o, ops[i]? = some o → ∀ k ∈ edgesOf o, k < xs.length
  el : Es.length = xs.length
  es : ∀ (j : Nat) o, j < xs.length → ops[pm j]? = some o → Es[j]? = some ((edgesOf o).map ps)
  op : ∀ (j : Nat), j < xs.length → ∃ x g, xs[pm j]? = some x ∧ xs'[j]? = some { x with gr := g }
  ok : drawOk m Es xs' (befs Es []) = true
theorem drawX_spec {ops : List Oper} {xs xs' : List XOper} {E : List Nat} (hl : ops.length = xs.length) (h : drawX (ops.map edgesOf) xs E = some xs') : ∃ m pm ps Es, Drawn ops xs xs' m pm ps Es := by
  unfold drawX at h
  simp only at h
  split at h
  case isFalse => cases h
  rename_i hc
  injection h with h
  generalize hO : ordOf xs.length E = O at h hc
  simp only [Bool.and_eq_true, decide_eq_true_eq, List.all_eq_true] at hc
  obtain ⟨⟨⟨⟨h1, h2⟩, h3⟩, h4⟩, h5⟩ := hc
  unfold permOk at h1
  simp only [Bool.and_eq_true, decide_eq_true_eq, List.all_eq_true, List.mem_range] at h1
  obtain ⟨⟨p1, p2⟩, p3⟩ := h1
  have hOj : ∀ j, j < xs.length → O[j]? = some (O.getD j xs.length) := by
    intro j hj
    rw [List.getD_eq_getElem?_getD, List.getElem?_eq_getElem (by omega)]; rfl
  refine ⟨E.length, fun j => O.getD j xs.length, fun i => O.idxOf i, O.map (fun i => ((ops.map edgesOf).getD i []).map fun k => O.idxOf k), ?_⟩
  refine ⟨by rw [← h, setGr_length]; simpa using p1, h4, p3, fun i hi => ⟨(p2 i hi).2, (p2 i hi).1⟩, fun i o ho k hk => h2 (edgesOf o) (List.mem_map.2 ⟨o, List.mem_of_getElem? ho, rfl⟩) k hk, by simpa using p1, fun j o hj ho => ?_, fun j hj => ?_, by rw [← h]; exact h5⟩
  · rw [List.getElem?_map, hOj j hj]
    simp only [Option.map_some, List.getD_eq_getElem?_getD, List.getElem?_map] at ho ⊢
    rw [ho]; rfl
  · have hx : xs[O.getD j xs.length]? = some (xs[O.getD j xs.length]'(p3 j hj).1) := List.getElem?_eq_getElem _
    have hy : (O.map fun i => xs.getD i noOper)[j]? = some (xs[O.getD j xs.length]'(p3 j hj).1) := by
      rw [List.getElem?_map, hOj j hj]
      simp only [Option.map_some]
      rw [List.getD_eq_getElem?_getD, hx]; rfl
    obtain ⟨g, hg⟩ := setGr_spec (m := E.length) (B := befs (O.map (fun i => ((ops.map edgesOf).getD i []).map fun k => O.idxOf k)) []) hy
    exact ⟨_, g, hx, by rw [← h]; exact hg⟩
theorem drawE_spec {ops : List Oper} {xs xs' : List XOper} (hl : ops.length = xs.length) (h : drawE (ops.map edgesOf) xs = some xs') : ∃ m pm ps Es, Drawn ops xs xs' m pm ps Es := by
  unfold drawE at h
  split at h
  · rename_i r hr
    injection h with h; subst h
    exact drawX_spec hl hr
  · exact drawX_spec hl h
end
end Go.Proofs.YtfgnefnpfgdliaaDoor
