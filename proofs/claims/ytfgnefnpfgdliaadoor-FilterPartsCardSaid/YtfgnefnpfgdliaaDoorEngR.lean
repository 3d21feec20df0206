/- A region that draws its order: the walk. -/
import Derived.Test.YtfgnefnpfgdliaaDoorEngQ
namespace Go.Proofs.YtfgnefnpfgdliaaDoor
open Go.RowKit
set_option linter.unusedVariables false
set_option linter.unusedSimpArgs false

/-- The operations and what they are for the ideal machine. -/
def Conv (P : Program) (nt : Nat) (pm : Nat → Nat) (ops : List Oper) (xs : List XOper) : Prop :=
  ops.length = xs.length ∧ ∀ (j : Nat) x, xs[j]? = some x → ∃ o, ops[pm j]? = some o ∧ cvOp P o.op = some x.op ∧ o.dst = x.dst ∧ cvGuard ops o.guard = some x.guard ∧ ∀ d, o.dst = some d → d < nt

theorem lk_keep (ks : List Nat) (e : Env) (s : Nat) : lk (keepEnv ks e) s = if s ∈ ks then lk e s else .undef := by
  unfold keepEnv
  induction ks with
  | nil => simp [lk]
  | cons k ks ih =>
    simp only [List.map_cons, lk, ih]
    by_cases h : k = s
    · subst h; simp
    · simp [h, Ne.symm h]

section
variable {P : Program} {β β' : Bm} {w w' : World} {h h' : Heap}

theorem wanted_ok {ops : Array Oper} {o : Oper} {g : Option (Nat × Bool)} {e : Env} {a : Act} {b : Bool} (hg : cvGuard ops.toList o.guard = some g) (hE : ∀ s q, g = some (s, q) → RV β w h (lk e s) (a.tmps.getD s undef)) (hw : wanted g e = some b) :
    Region.wanted o (yielded ops a.tmps) = b := by
  unfold Region.wanted
  cases hgo : o.guard with
  | none =>
    rw [hgo] at hg
    simp only [cvGuard] at hg
    injection hg with hg; subst hg
    simp only [wanted] at hw
    injection hw
  | some jq =>
    obtain ⟨j, q⟩ := jq
    rw [hgo] at hg
    simp only [cvGuard] at hg
    split at hg
    · rename_i p hp
      split at hg
      · rename_i s hs
        injection hg with hg; subst hg
        have hr := hE s q rfl
        simp only [wanted] at hw
        have hy : yielded ops a.tmps j = match a.tmps[s]? with | some (.bool b) => some b | _ => none := by
          unfold yielded
          have : (ops[j]?).bind (·.dst) = some s := by
            rw [Array.getElem?_toList] at hp
            rw [hp]; exact hs
          rw [this]; rfl
        simp only [hy]
        split at hw
        · rename_i t ht
          injection hw with hw; subst hw
          rw [ht] at hr
          have : a.tmps[s]? = some (.bool t) := by
            rw [Array.getD_eq_getD_getElem?] at hr
            cases hq : a.tmps[s]? with
            | none => rw [hq] at hr; cases hr
            | some v => rw [hq] at hr; cases hr; rfl
          rw [this]
          cases t <;> cases q <;> rfl
        · rename_i vs ht
          injection hw with hw; subst hw
          rw [ht] at hr
          have : ∀ t, a.tmps[s]? ≠ some (.bool t) := by
            intro t hq
            rw [Array.getD_eq_getD_getElem?, hq] at hr
            cases hr
          split
          · rename_i b hb; exact absurd hb (this b)
          · rfl
        · cases hw
      · cases hg
    · cases hg
end

/-- What has been reached, once the operations L have come up. -/
structure DSt (m : Nat) (xs : List XOper) (Ev : Nat → Env) (Hv : Nat → Heap) (Dv : Nat → DV) (β0 : Bm) (w0 : World) (nt : Nat) (D : List Deferred) (L : Nat → Prop) (a : Act) (w : World) (β : Bm) (c : Nat) : Prop where
  le : c ≤ xs.length
  mle : m ≤ c
  ext : Ext β0 w0 (Hv 0) β w (Hv c)
  inv : Inv β w (Hv c)
  size : a.tmps.size = nt
  defers : a.defers = D
  set : ∀ (i : Nat) x s, L i → xs[i]? = some x → x.dst = some s → RV β w (Hv c) (Dv i) (a.tmps.getD s undef)
  old : ∀ s, (∀ (i : Nat) x, L i → xs[i]? = some x → x.dst ≠ some s) → RV β w (Hv c) (lk (Ev 0) s) (a.tmps.getD s undef)
  done : ∀ (i : Nat) x, m ≤ i → i < c → xs[i]? = some x → x.op.kind = 2 → L i
  todo : ∀ (i : Nat) x, c ≤ i → xs[i]? = some x → L i → x.op.kind ≠ 2
  pend : ∀ (i : Nat) x, i < m → xs[i]? = some x → ¬ L i → ∃ t cs, x.op = .alloc t cs ∧ (Hv c)[(Hv 0).length + i]? = some (.box t cs) ∧ β ((Hv 0).length + i) = none

section
variable {P : Program} {call : CallF} {xs : List XOper} {Ev : Nat → Env} {Hv : Nat → Heap} {Dv : Nat → DV} {ops : Array Oper} {nt m : Nat} {pm : Nat → Nat} {Es : List (List Nat)} {B : List Nat}

theorem draw_step (hc : CallOk P call) (hT : TextRun call xs Ev Hv Dv) (hcv : Conv P nt pm ops.toList xs) (hB : B = befs Es []) (hEs : Es.length = xs.length) (hok : drawOk m Es xs B = true) (hbox : ∀ (i : Nat) x, i < m → xs[i]? = some x → Dv i = .ref ((Hv 0).length + i) 0) {β0 : Bm} {w0 : World} (h0 : Inv β0 w0 (Hv 0)) {D : List Deferred}
    {L : Nat → Prop} {j : Nat} (hL : Closed Es L) (hjL : ¬ L j) (hj : j < xs.length) (hready : ∀ es, Es[j]? = some es → ∀ k ∈ es, L k) {a : Act} {w : World} {β : Bm} {c : Nat} (hS : DSt m xs Ev Hv Dv β0 w0 nt D L a w β c)
    {Q : Exit → Act → World → Prop} {K : Act → World → Prop} (hK : ∀ a' w' β' c', DSt m xs Ev Hv Dv β0 w0 nt D (fun i => L i ∨ i = j) a' w' β' c' → K a' w') : wpOp P ops Q (pm j) K a w := by
  obtain ⟨y, hy⟩ : ∃ y, xs[j]? = some y := ⟨xs[j], by simp⟩
  have hlo : ops.toList.length = xs.length := hcv.1
  obtain ⟨o, ho, hop, hdst, hgd, hnt⟩ := hcv.2 j y hy
  obtain ⟨es, hes⟩ : ∃ es, Es[j]? = some es := ⟨Es[j], by simp⟩
  have spec := fun (p : Nat) (z : XOper) es (h1 : Es[p]? = some es) (h2 : xs[p]? = some z) => allOk_spec hok p es z h1 h2
  have esOf : ∀ p, p < xs.length → ∃ es, Es[p]? = some es := fun p hp => ⟨Es[p], by simp⟩
  have pair : ∀ (i p : Nat) (x z : XOper), m ≤ i → i < p → xs[i]? = some x → xs[p]? = some z → dstOk x z = true ∧ ((B.getD p 0).testBit i = true ∨ (dstOff x z = true ∧ dstOff z x = true ∧ commute x z = true)) := by
    intro i p x z hmi hip hx hz
    have hp := (List.getElem?_eq_some_iff.1 hz).1
    obtain ⟨es, he⟩ := esOf p hp
    have := (spec p z es he hz).2.2.1 i x (by omega) hx
    refine ⟨this.1, ?_⟩
    have h2 := this.2
    simp only [pairOk, Nat.zero_add, if_neg (show ¬ i < m by omega), Bool.or_eq_true, Bool.and_eq_true] at h2
    rcases h2 with h2 | ⟨⟨h2, h3⟩, h4⟩
    · exact .inl h2
    · exact .inr ⟨h2, h3, h4⟩
  have pairE : ∀ (i p : Nat) (x z : XOper), i < m → i < p → xs[i]? = some x → xs[p]? = some z → dstOk x z = true ∧ ((B.getD p 0).testBit i = true ∨ (dstOff x z = true ∧ (p < m ∨ z.op.kind ≠ 2 ∨ z.gr = true))) := by
    intro i p x z hmi hip hx hz
    have hp := (List.getElem?_eq_some_iff.1 hz).1
    obtain ⟨es, he⟩ := esOf p hp
    have := (spec p z es he hz).2.2.1 i x (by omega) hx
    refine ⟨this.1, ?_⟩
    have h2 := this.2
    simp only [pairOk, Nat.zero_add, if_pos hmi, Bool.or_eq_true, Bool.and_eq_true, decide_eq_true_eq, bne_iff_ne, ne_eq] at h2
    rcases h2 with h2 | ⟨h2, (h3 | h3) | h3⟩
    · exact .inl h2
    · exact .inr ⟨h2, .inl h3⟩
    · exact .inr ⟨h2, .inr (.inl h3)⟩
    · exact .inr ⟨h2, .inr (.inr h3)⟩
  have pairD : ∀ (i p : Nat) (x z : XOper), i < p → xs[i]? = some x → xs[p]? = some z → dstOk x z = true ∧ ((B.getD p 0).testBit i = true ∨ dstOff x z = true) := by
    intro i p x z hip hx hz
    by_cases hmi : i < m
    · rcases pairE i p x z hmi hip hx hz with ⟨h1, h2 | h2⟩
      · exact ⟨h1, .inl h2⟩
      · exact ⟨h1, .inr h2.1⟩
    · rcases pair i p x z (by omega) hip hx hz with ⟨h1, h2 | h2⟩
      · exact ⟨h1, .inl h2⟩
      · exact ⟨h1, .inr h2.1⟩
  have bef : ∀ p i, (B.getD p 0).testBit i = true → (∀ es, Es[p]? = some es → ∀ k ∈ es, L k) → L i := by
    intro p i hb hp
    subst hB
    exact befs_spec (All := Es) (rest := Es) (pre := []) (acc := []) rfl rfl (fun j hj => by simp at hj) p i hb L hL hp
  have befL : ∀ p i, (B.getD p 0).testBit i = true → L p → L i := fun p i hb hp => bef p i hb (fun es he => hL p es hp he)
  have kle : ∀ x : XOp, x.kind ≤ 2 := fun x => kind_le x
  have offNot : ∀ {x z : XOper} {s : Nat}, dstOff x z = true → x.dst = some s → s ∉ z.looks := by
    intro x z s hoff hs hin
    simp only [dstOff, hs, Bool.not_eq_true', List.contains_eq_mem, decide_eq_false_iff_not] at hoff
    exact hoff hin
  have putD : ∀ v : Value, (a.put o.dst v).defers = a.defers := fun v => by cases o.dst <;> rfl
  have putS : ∀ v : Value, (a.put o.dst v).tmps.size = nt := fun v => by
    cases o.dst with
    | none => simpa [Act.put] using hS.size
    | some d => simpa [Act.put] using hS.size
  -- a box that comes late
  by_cases hjm : j < m
  · obtain ⟨t, cs, hal, hbx, hβ⟩ := hS.pend j y hjm hy hjL
    have hIa := (spec j y es hes hy).2.2.2 (by omega)
    have hgn : y.guard = none := by
      simp only [isAl, Bool.and_eq_true, Option.isNone_iff_eq_none] at hIa
      exact hIa.1.2
    rw [hal] at hop
    have hw : Region.wanted o (yielded ops a.tmps) = true := by
      refine wanted_ok (β := β) (w := w) (h := Hv c) (e := Ev j) hgd (fun s q hq => ?_) (by rw [hgn]; rfl)
      rw [hgn] at hq; cases hq
    unfold wpOp
    rw [Array.getElem?_toList] at ho
    rw [ho]
    simp only
    rw [if_pos hw]
    refine .inl ?_
    refine good_late hS.inv hop hβ hbx fun us hI' => ?_
    have hE0 := Ext0.fill hS.inv (.cells us t) hβ
    have hk : (Hv 0).length ≤ (Hv 0).length + j := by omega
    refine hK _ _ (upd β ((Hv 0).length + j) w.heap.size) c ⟨hS.le, hS.mle, ⟨Ext0.trans h0 hS.ext.toExt0 hE0, fun o' ho' hn' => ?_⟩, hI', putS _, ?_, ?_, ?_, ?_, ?_, ?_⟩
    · rw [upd_ne _ _ (by omega : o' ≠ (Hv 0).length + j)]; exact hS.ext.old o' ho' hn'
    · rw [putD]; exact hS.defers
    · intro i x s hLi hx hxs
      rcases hLi with hLi | rfl
      · have hne : i ≠ j := fun h => hjL (h ▸ hLi)
        have hold := RV.ext0 hE0 (hS.set i x s hLi hx hxs)
        cases hd : o.dst with
        | none => exact hold
        | some d =>
          rw [getD_put (by rw [hS.size]; exact hnt d hd)]
          have : d ≠ s := by
            rintro rfl
            rw [hdst] at hd
            rcases Nat.lt_or_gt_of_ne hne with hij | hij
            · have := (pairD i j x y hij hx hy).1
              simp [dstOk, hxs, hd] at this
            · have := (pairD j i y x hij hy hx).1
              simp [dstOk, hxs, hd] at this
          rw [if_neg this]
          exact hold
      · rw [hy] at hx; injection hx with hx; subst hx
        rw [hdst, hxs, getD_put (by rw [hS.size]; exact hnt s (by rw [hdst, hxs])), if_pos rfl, hbox i y hjm hy]
        exact .ref (upd_self _ _ _) hbx
    · intro s hs
      have hold := RV.ext0 hE0 (hS.old s (fun i x hLi hx => hs i x (.inl hLi) hx))
      cases hd : o.dst with
      | none => exact hold
      | some d =>
        rw [getD_put (by rw [hS.size]; exact hnt d hd)]
        have : d ≠ s := by
          rintro rfl
          exact hs j y (.inr rfl) hy (by rw [← hdst, hd])
        rw [if_neg this]
        exact hold
    · intro i x hmi hic hx hxk
      exact .inl (hS.done i x hmi hic hx hxk)
    · intro i x hic hx hLi
      rcases hLi with hLi | rfl
      · exact hS.todo i x hic hx hLi
      · have := hS.mle; omega
    · intro i x him hx hnL
      have hij : i ≠ j := fun h => hnL (.inr h)
      obtain ⟨t', cs', q1, q2, q3⟩ := hS.pend i x him hx (fun h => hnL (.inl h))
      exact ⟨t', cs', q1, q2, by rw [upd_ne _ _ (by omega)]; exact q3⟩
  -- what the operation looks at
  have hlook : ∀ s ∈ y.looks, RV β w (Hv c) (lk (Ev j) s) (a.tmps.getD s undef) := by
    intro s hs
    rcases hT.lk s j (by omega) with ⟨i, x, h1, h2, h3, h4, h5⟩ | ⟨h1, h2⟩
    · rw [h4]
      refine hS.set i x s ?_ h2 h3
      rcases (pairD i j x y h1 h2 hy).2 with hb | hoff
      · exact bef j i hb hready
      · exact absurd hs (offNot hoff h3)
    · rw [h2]
      refine hS.old s (fun i x hLi hx hxs => ?_)
      rcases Nat.lt_trichotomy i j with hij | hij | hij
      · exact h1 i x hij hx hxs
      · subst hij; exact hjL hLi
      · rcases (pair j i y x (by omega) hij hy hx).2 with hb | ⟨_, hoff, _⟩
        · exact hjL (befL i j hb hLi)
        · exact offNot hoff hxs hs
  have hER : ER β w (Hv c) (keepEnv y.looks (Ev j)) a := by
    intro s
    rw [lk_keep]
    split
    · rename_i hs; exact hlook s hs
    · exact .undef _
  have hwant : ∀ b, wanted y.guard (Ev j) = some b → Region.wanted o (yielded ops a.tmps) = b := by
    intro b hb
    refine wanted_ok (β := β) (w := w) (h := Hv c) hgd (fun s q hq => ?_) hb
    exact hlook s (by unfold XOper.looks; rw [hq]; simp)
  -- the heap, and the steps
  have chain : y.op.kind = 2 → c ≤ j ∧ Hv j = Hv c := by
    intro hk
    have hcj : c ≤ j := by
      rcases Nat.lt_or_ge j c with h | h
      · exact absurd (hS.done j y (by omega) h hy hk) hjL
      · exact h
    refine ⟨hcj, ?_⟩
    have hq : ∀ q, c ≤ q → q ≤ j → Hv q = Hv c := by
      intro q
      induction q with
      | zero => intro h1 _; have : c = 0 := by omega
                subst this; rfl
      | succ q ih =>
        intro h1 h2
        by_cases hcq : c = q + 1
        · rw [hcq]
        · obtain ⟨x, hx⟩ : ∃ x, xs[q]? = some x := ⟨xs[q], by simp⟩
          have hnk : x.op.kind ≠ 2 := by
            intro hxk
            rcases (pair q j x y (by have := hS.mle; omega) (by omega) hx hy).2 with hb | ⟨_, _, hcm⟩
            · exact hS.todo q x (by omega) hx (bef j q hb hready) hxk
            · simp [commute, hk, hxk] at hcm
          rw [hT.quiet hx hnk, ih (by omega) (by omega)]
    exact hq j hcj (Nat.le_refl _)
  have next : ∀ (v : Value) (w' : World) (β' : Bm) (c' : Nat), (y.op.kind = 2 → c' = j + 1) → (y.op.kind ≠ 2 → c' = c) → Ext β w (Hv c) β' w' (Hv c') → Inv β' w' (Hv c') → RV β' w' (Hv c') (Dv j) v → K (a.put o.dst v) w' := by
    intro v w' β' c' hc1 hc2 he hi hr
    refine hK _ w' β' c' ⟨?_, ?_, Ext.trans h0 hS.ext he, hi, ?_, ?_, ?_, ?_, ?_, ?_, ?_⟩
    · by_cases hk : y.op.kind = 2
      · rw [hc1 hk]; omega
      · rw [hc2 hk]; exact hS.le
    · by_cases hk : y.op.kind = 2
      · rw [hc1 hk]; omega
      · rw [hc2 hk]; exact hS.mle
    · rw [hdst]
      cases hd : y.dst with
      | none => simpa [Act.put] using hS.size
      | some d => simpa [Act.put] using hS.size
    · have : (a.put o.dst v).defers = a.defers := by cases o.dst <;> rfl
      rw [this]; exact hS.defers
    · intro i x s hLi hx hxs
      rcases hLi with hLi | rfl
      · have hne : i ≠ j := fun h => hjL (h ▸ hLi)
        have hold := RV.ext he (hS.set i x s hLi hx hxs)
        cases hd : o.dst with
        | none => exact hold
        | some d =>
          rw [getD_put (by rw [hS.size]; exact hnt d hd)]
          have : d ≠ s := by
            rintro rfl
            rw [hdst] at hd
            rcases Nat.lt_or_gt_of_ne hne with hij | hij
            · have := (pairD i j x y hij hx hy).1
              simp [dstOk, hxs, hd] at this
            · have := (pairD j i y x hij hy hx).1
              simp [dstOk, hxs, hd] at this
          rw [if_neg this]
          exact hold
      · rw [hy] at hx; injection hx with hx; subst hx
        rw [hdst, hxs, getD_put (by rw [hS.size]; exact hnt s (by rw [hdst, hxs])), if_pos rfl]
        exact hr
    · intro s hs
      have hold := RV.ext he (hS.old s (fun i x hLi hx => hs i x (.inl hLi) hx))
      cases hd : o.dst with
      | none => exact hold
      | some d =>
        rw [getD_put (by rw [hS.size]; exact hnt d hd)]
        have : d ≠ s := by
          rintro rfl
          exact hs j y (.inr rfl) hy (by rw [← hdst, hd])
        rw [if_neg this]
        exact hold
    · intro i x hmi hic hx hxk
      by_cases hk : y.op.kind = 2
      · rw [hc1 hk] at hic
        by_cases hij : i = j
        · exact .inr hij
        · by_cases hcc : i < c
          · exact .inl (hS.done i x hmi hcc hx hxk)
          · exfalso
            rcases (pair i j x y hmi (by omega) hx hy).2 with hb | ⟨_, _, hcm⟩
            · exact hS.todo i x (by omega) hx (bef j i hb hready) hxk
            · simp [commute, hk, hxk] at hcm
      · rw [hc2 hk] at hic
        exact .inl (hS.done i x hmi hic hx hxk)
    · intro i x hic hx hLi
      rcases hLi with hLi | rfl
      · refine hS.todo i x ?_ hx hLi
        by_cases hk : y.op.kind = 2
        · rw [hc1 hk] at hic; have := (chain hk).1; omega
        · rw [hc2 hk] at hic; exact hic
      · rw [hy] at hx; injection hx with hx; subst hx
        intro hk
        rw [hc1 hk] at hic
        omega
    · intro i x him hx hnL
      obtain ⟨t, cs, q1, q2, q3⟩ := hS.pend i x him hx (fun h => hnL (.inl h))
      have hlt : (Hv 0).length + i < (Hv c).length := (List.getElem?_eq_some_iff.1 q2).1
      refine ⟨t, cs, q1, ?_, he.old _ hlt q3⟩
      by_cases hk : y.op.kind = 2
      · rw [hc1 hk]
        rcases (pairE i j x y him (by omega) hx hy).2 with hb | ⟨_, h3⟩
        · exact absurd (.inl (bef j i hb hready)) hnL
        · have hg : y.gr = true := by
            rcases h3 with h3 | h3 | h3
            · exact absurd h3 hjm
            · exact absurd hk h3
            · exact h3
          obtain ⟨u, hu⟩ := hT.grow hy (.inl hg)
          rw [hu, (chain hk).2, List.getElem?_append_left hlt]
          exact q2
      · rw [hc2 hk]; exact q2
  -- now
  have hgo := hT.op j y hy
  unfold wpOp
  rw [Array.getElem?_toList] at ho
  rw [ho]
  simp only
  unfold evOp at hgo
  split at hgo
  · cases hgo
  · rename_i hw
    obtain ⟨e1, e2⟩ := some_pair hgo
    rw [if_neg (by rw [hwant false hw]; simp)]
    by_cases hk : y.op.kind = 2
    · refine next undef w β (j + 1) (fun _ => rfl) (fun h => absurd hk h) ?_ ?_ ?_
      · rw [← e2, (chain hk).2]; exact Ext.refl _ _ _
      · rw [← e2, (chain hk).2]; exact hS.inv
      · rw [← e1]; exact .tup .nil
    · refine next undef w β c (fun h => absurd h hk) (fun _ => rfl) (Ext.refl _ _ _) hS.inv ?_
      rw [← e1]; exact .tup .nil
  · rename_i hw
    rw [if_pos (hwant true hw)]
    split at hgo
    case h_2 => cases hgo
    rename_i d h1 hd
    split at hgo
    · cases hgo
    obtain ⟨rfl, rfl⟩ := some_pair hgo
    have hsl : ∀ s ∈ y.op.sl, lk (Ev j) s = lk (keepEnv y.looks (Ev j)) s := by
      intro s hs
      rw [lk_keep, if_pos (by unfold XOper.looks; simp [hs])]
    rw [evTo_congr hsl] at hd
    refine .inl ?_
    by_cases hk : y.op.kind = 2
    · rw [(chain hk).2] at hd
      exact good_step hc hS.inv hER hop hd fun v w' β' q1 q2 q3 => next v w' β' (j + 1) (fun _ => rfl) (fun h => absurd hk h) q1 q2 q3
    · have hnow : evTo call y.op (keepEnv y.looks (Ev j)) (Hv c) = some (Dv j, Hv c) := by
        have hk' : y.op.kind = 0 ∨ y.op.kind = 1 := by have := kle y.op; omega
        rcases hk' with hk0 | hk1
        · unfold evTo at hd ⊢
          rw [kind0_nocall hk0] at hd ⊢
          simp only at hd ⊢
          rw [kind0 hk0 _ _ (Hv j)]
          rw [hd]; rfl
        · unfold evTo at hd ⊢
          rw [kind1_nocall hk1] at hd ⊢
          simp only at hd ⊢
          rcases Nat.le_total c j with hcj | hcj
          · obtain ⟨t, ht⟩ := grows (Hv := Hv) (p := c) j hcj (fun i h1 h2 => by
              obtain ⟨x, hx⟩ : ∃ x, xs[i]? = some x := ⟨xs[i], by simp⟩
              refine hT.grow hx ?_
              by_cases hxk : x.op.kind = 2
              · rcases (pair i j x y (by have := hS.mle; omega) h2 hx hy).2 with hb | ⟨_, _, hcm⟩
                · exact absurd hxk (hS.todo i x h1 hx (bef j i hb hready))
                · simp [commute, hk1, hxk] at hcm
                  exact .inl hcm
              · exact .inr hxk)
            rw [ht] at hd
            refine (kind1_back (β := β) (w := w) hk1 (a := a) (fun o' ho' => ?_) hd).2
            cases o' with
            | t n => exact .inl ⟨_, hER n⟩
            | c dd =>
              refine .inr ?_
              have hm := (spec j y es hes hy).2.1
              unfold mainOk at hm
              rw [ho'] at hm
              exact hm
          · obtain ⟨t, ht⟩ := grows (Hv := Hv) (p := j) c hcj (fun i h1 h2 => by
              obtain ⟨x, hx⟩ : ∃ x, xs[i]? = some x := ⟨xs[i]'(by have := hS.le; omega), by simp⟩
              refine hT.grow hx ?_
              by_cases hxk : x.op.kind = 2
              · have hLi := hS.done i x (by omega) h2 hx hxk
                have hij : j ≠ i := fun h => hjL (h ▸ hLi)
                rcases (pair j i y x (by omega) (by omega) hy hx).2 with hb | ⟨_, _, hcm⟩
                · exact absurd (befL i j hb hLi) hjL
                · simp [commute, hk1, hxk] at hcm
                  exact .inl hcm
              · exact .inr hxk)
            rw [ht]
            obtain ⟨q1, q2⟩ := kind1_grow hk1 hd
            exact q2 t
      exact good_step hc hS.inv hER hop hnow fun v w' β' q1 q2 q3 => next v w' β' c (fun h => absurd h hk) (fun _ => rfl) q1 q2 q3
end
end Go.Proofs.YtfgnefnpfgdliaaDoor
