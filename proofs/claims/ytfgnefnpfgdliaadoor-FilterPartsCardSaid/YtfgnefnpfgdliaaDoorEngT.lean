/- Code: what the ideal machine says is what the model does. -/
import Derived.Test.YtfgnefnpfgdliaaDoorEngS
namespace Go.Proofs.YtfgnefnpfgdliaaDoor
open Go.RowKit
set_option linter.unusedVariables false
set_option linter.unusedSimpArgs false

def Ex.to : Ex → Exit
  | .norm => .normal
  | .exit id => .exit id
  | .ret => .ret

/-- What an end of code must bring about. -/
def Ends (β : Bm) (w : World) (h : Heap) (nt : Nat) (D : List Deferred) (r : Ex × Env × Heap) (Q : Exit → Act → World → Prop) : Prop :=
  ∀ β' w' a', Ext β w h β' w' r.2.2 → Inv β' w' r.2.2 → ER β' w' r.2.2 r.2.1 a' → a'.tmps.size = nt → a'.defers = D → Q r.1.to a' w'

section
variable {P : Program} {call : CallF} {nt : Nat} {H : Hints}

theorem ER.keep {β : Bm} {w : World} {h : Heap} {e : Env} {a : Act} (hE : ER β w h e a) (ks : List Nat) : ER β w h (keepEnv ks e) a := by
  intro s
  rw [lk_keep]
  split
  · exact hE s
  · exact .undef _
theorem code_region (hc : CallOk P call) (hm : P.follows .mixedOrders = true) {id : Nat} {ops : Array Oper} {draw : Bool} {x : XC} (hx : cvC P nt H (.region id ops draw) = some x) {e : Env} {h : Heap} {n : Nat} {r : Ex × Env × Heap} (hr : evC call n x e h = some r)
    {β : Bm} {w : World} {a : Act} {D : List Deferred} (hI : Inv β w h) (hE : ER β w h e a) (hs : a.tmps.size = nt) (hD : a.defers = D) {Q : Exit → Act → World → Prop} (hQ : Ends β w h nt D r Q) : (Code.region id ops draw).wp P Q a w := by
  simp only [cvC] at hx
  split at hx
  case h_2 => cases hx
  rename_i xs hxs
  obtain ⟨hlen, hconv⟩ := cvOpers_spec hxs
  split at hx
  case isFalse => cases hx
  rename_i hdsts
  have hnt : ∀ (i : Nat) o, ops.toList[i]? = some o → ∀ d, o.dst = some d → d < nt := by
    intro i o ho d hd
    have := List.all_eq_true.1 hdsts o (List.mem_of_getElem? ho)
    rw [hd] at this
    simpa using this
  cases draw with
  | false =>
    simp only [Bool.false_eq_true, if_false] at hx
    injection hx with hx; subst hx
    simp only [evC] at hr
    split at hr
    · rename_i e' h' hev
      injection hr with hr; subst hr
      refine wp_region_list ?_
      refine text_region hc hI (fun β' w' a' q1 q2 q3 q4 q5 => hQ β' w' a' q1 q2 (q3.keep _) q4 q5) hlen (fun i o ho => ?_) hev (Ext.refl _ _ _) hI hE hs hD
      obtain ⟨x, q1, q2, q3, q4⟩ := hconv i o ho
      exact ⟨x, q1, q2, q3, q4, hnt i o ho⟩
    · cases hr
  | true =>
    simp only [if_true] at hx
    split at hx
    case h_2 => cases hx
    rename_i xs' hdr
    injection hx with hx; subst hx
    simp only [evC] at hr
    split at hr
    · rename_i e' h' hev
      injection hr with hr; subst hr
      obtain ⟨Ev, Hv, Dv, hT, rfl, rfl, rfl, rfl⟩ := textRun_of hev
      obtain ⟨m, pm, ps, Es, hd⟩ := drawE_spec hlen hdr
      have hsz : ops.size = xs.length := by simpa using hlen
      have hcv : Conv P nt pm ops.toList xs' := by
        refine ⟨by rw [hd.len]; exact hlen, fun j y hy => ?_⟩
        have hj : j < xs.length := by have := (List.getElem?_eq_some_iff.1 hy).1; rw [hd.len] at this; exact this
        obtain ⟨x, g, h1, h2⟩ := hd.op j hj
        rw [h2] at hy; injection hy with hy; subst hy
        have ho : ops.toList[pm j]? = some (ops.toList[pm j]'(by rw [hlen]; exact (hd.hpm j hj).1)) := List.getElem?_eq_getElem _
        obtain ⟨x', q1, q2, q3, q4⟩ := hconv _ _ ho
        rw [h1] at q1; injection q1 with q1; subst q1
        exact ⟨_, ho, q2, q3, q4, hnt _ _ ho⟩
      have hsame : Same w { w with drawn := w.drawn + 1 } := ⟨rfl, rfl, rfl, rfl⟩
      have hX := Ext.same hI hsame
      have hI' := Inv.same hI hsame
      have hml : m ≤ xs'.length := by rw [hd.len]; exact hd.mle
      have hal : ∀ (i : Nat) x, i < m → xs'[i]? = some x → isAl x = true := by
        intro i x him hx
        have hi : i < Es.length := by rw [hd.el]; have := hd.mle; omega
        have := (allOk_spec hd.ok i _ x (List.getElem?_eq_getElem hi) hx).2.2.2
        rw [Nat.zero_add] at this
        exact this him
      obtain ⟨l, l1, l2, l3, l4⟩ := lead hT hml hal m (Nat.le_refl _)
      refine wp_region_any hm ?_
      refine draw_any (m := m) (pm := pm) (ps := ps) hc hT hcv (by rw [hsz]; exact hd.hpm) (by rw [hsz]; exact hd.hps) (by intro i o ho; rw [hsz]; exact hd.lt i o (by rw [Array.getElem?_toList]; exact ho)) (by rw [hd.el, hd.len])
        (by intro j o hj ho; rw [hsz] at hj; exact hd.es j o hj (by rw [Array.getElem?_toList]; exact ho)) hd.ok (fun i x him hx => by obtain ⟨t, cs, _, _, h3⟩ := l4 i x him hx; exact h3) hI'
        (fun β' w' a' q1 q2 q3 q4 q5 => hQ β' w' a' (Ext.trans hI hX q1) q2 (q3.keep _) q4 q5) _ _ _ _ β m (by simp) ?_ ?_ ⟨hml, Nat.le_refl _, ?_, ?_, hs, hD, ?_, ?_, ?_, ?_, ?_⟩
      · exact Nat.le_trans (List.length_filter_le _ _) (by simp)
      · intro j es hj
        simp [Array.getElem?_replicate] at hj
      · rw [l1]; exact Ext.holes hI' l
      · rw [l1]; exact Inv.holes hI' l3
      · intro i x s hL
        simp [Array.getElem?_replicate] at hL
      · intro s _
        rw [l1]
        exact RV.ext (Ext.trans hI hX (Ext.holes hI' l)) (hE s)
      · intro i x h1 h2
        omega
      · intro i x _ _ hL
        simp [Array.getElem?_replicate] at hL
      · intro i x him hx _
        obtain ⟨t, cs, h1, h2, h3⟩ := l4 i x him hx
        refine ⟨t, cs, h1, ?_, ?_⟩
        · rw [l1, List.getElem?_append_right (by omega), Nat.add_sub_cancel_left]; exact h2
        · cases hb : β ((Hv 0).length + i) with
          | none => rfl
          | some b => have := (hI.lt _ b hb).1; omega
    · cases hr

theorem code_ok (hc : CallOk P call) (hm : P.follows .mixedOrders = true) : ∀ (n : Nat) (c : Code) (x : XC), cvC P nt H c = some x → ∀ e h r, evC call n x e h = some r → ∀ β w a D, Inv β w h → ER β w h e a → a.tmps.size = nt → a.defers = D →
    ∀ Q, Ends β w h nt D r Q → c.wp P Q a w := by
  intro n
  induction n using Nat.strongRecOn with
  | _ n ihn =>
  intro c
  induction c with
  | skip =>
    intro x hx e h r hr β w a D hI hE hs hD Q hQ
    simp only [cvC] at hx; injection hx with hx; subst hx
    simp only [evC] at hr; injection hr with hr; subst hr
    exact wp_skip (hQ β w a (Ext.refl _ _ _) hI hE hs hD)
  | label l =>
    intro x hx e h r hr β w a D hI hE hs hD Q hQ
    simp only [cvC] at hx; injection hx with hx; subst hx
    simp only [evC] at hr; injection hr with hr; subst hr
    exact wp_label (hQ β w a (Ext.refl _ _ _) hI hE hs hD)
  | ret =>
    intro x hx e h r hr β w a D hI hE hs hD Q hQ
    simp only [cvC] at hx; injection hx with hx; subst hx
    simp only [evC] at hr; injection hr with hr; subst hr
    exact wp_ret (hQ β w a (Ext.refl _ _ _) hI hE hs hD)
  | exit id =>
    intro x hx e h r hr β w a D hI hE hs hD Q hQ
    simp only [cvC] at hx; injection hx with hx; subst hx
    simp only [evC] at hr; injection hr with hr; subst hr
    exact wp_exit (hQ β w a (Ext.refl _ _ _) hI hE hs hD)
  | region id ops draw =>
    intro x hx e h r hr β w a D hI hE hs hD Q hQ
    exact code_region hc hm hx hr hI hE hs hD hQ
  | seq c1 c2 ih1 ih2 =>
    intro x hx e h r hr β w a D hI hE hs hD Q hQ
    simp only [cvC] at hx
    split at hx
    case h_2 => cases hx
    rename_i x1 x2 h1 h2
    injection hx with hx; subst hx
    simp only [evC] at hr
    cases ha : evC call n x1 e h with
    | none => rw [ha] at hr; cases hr
    | some p =>
      rw [ha] at hr
      refine wp_seq (ih1 x1 h1 e h p ha β w a D hI hE hs hD _ ?_)
      intro β' w' a' q1 q2 q3 q4 q5
      obtain ⟨ex, e1, hp1⟩ := p
      cases ex with
      | norm => exact ih2 x2 h2 e1 hp1 r hr β' w' a' D q2 q3 q4 q5 Q (fun β2 w2 a2 p1 p2 p3 p4 p5 => hQ β2 w2 a2 (Ext.trans hI q1 p1) p2 p3 p4 p5)
      | exit id => simp only at hr; injection hr with hr; subst hr; exact hQ β' w' a' q1 q2 q3 q4 q5
      | ret => simp only at hr; injection hr with hr; subst hr; exact hQ β' w' a' q1 q2 q3 q4 q5
  | cond oc c1 c2 ih1 ih2 =>
    intro x hx e h r hr β w a D hI hE hs hD Q hQ
    simp only [cvC] at hx
    split at hx
    case h_2 => cases hx
    rename_i o x1 x2 h0 h1 h2
    injection hx with hx; subst hx
    simp only [evC] at hr
    have hco := cvO_ok hE h0
    split at hr
    · rename_i ht
      rw [ht] at hco
      generalize hv : a.eval oc = v at hco
      cases hco
      exact wp_cond_true hv (ih1 x1 h1 e h r hr β w a D hI hE hs hD Q hQ)
    · rename_i ht
      rw [ht] at hco
      generalize hv : a.eval oc = v at hco
      cases hco
      exact wp_cond_false hv (ih2 x2 h2 e h r hr β w a D hI hE hs hD Q hQ)
    · cases hr
  | block id c ih =>
    intro x hx e h r hr β w a D hI hE hs hD Q hQ
    simp only [cvC] at hx
    split at hx
    case h_2 => cases hx
    rename_i x1 h1
    injection hx with hx; subst hx
    simp only [evC] at hr
    cases ha : evC call n x1 e h with
    | none => rw [ha] at hr; cases hr
    | some p =>
      rw [ha] at hr
      refine wp_block (ih x1 h1 e h p ha β w a D hI hE hs hD _ ?_)
      intro β' w' a' q1 q2 q3 q4 q5
      obtain ⟨ex, e1, hp1⟩ := p
      cases ex with
      | norm => simp only at hr; injection hr with hr; subst hr; exact hQ β' w' a' q1 q2 q3 q4 q5
      | ret => simp only at hr; injection hr with hr; subst hr; exact hQ β' w' a' q1 q2 q3 q4 q5
      | exit id' =>
        simp only at hr
        simp only [Ex.to, Exit.inBlock]
        split at hr
        · rename_i hid
          injection hr with hr; subst hr
          rw [if_pos hid]
          exact hQ β' w' a' q1 q2 q3 q4 q5
        · rename_i hid
          injection hr with hr; subst hr
          rw [if_neg hid]
          exact hQ β' w' a' q1 q2 q3 q4 q5
  | loop c ih =>
    intro x hx e h r hr β w a D hI hE hs hD Q hQ
    simp only [cvC] at hx
    split at hx
    case h_2 => cases hx
    rename_i x1 h1
    injection hx with hx; subst hx
    suffices key : ∀ m, m ≤ n → ∀ e h r, evC call m (.loop x1) e h = some r → ∀ β w a, Inv β w h → ER β w h e a → a.tmps.size = nt → a.defers = D → Ends β w h nt D r Q → Code.rounds P c Q m a w from
      wp_loop_rounds n (key n (Nat.le_refl _) e h r hr β w a hI hE hs hD hQ)
    intro m
    induction m with
    | zero => intro _ e h r hr; simp [evC] at hr
    | succ m ihm =>
      intro hmn e h r hr β w a hI hE hs hD hQ
      simp only [evC] at hr
      cases ha : evC call (m + 1) x1 e h with
      | none => rw [ha] at hr; cases hr
      | some p =>
        rw [ha] at hr
        rw [rounds_succ]
        have hbody : ∀ Q', Ends β w h nt D p Q' → c.wp P Q' a w := by
          intro Q' hQ'
          by_cases hmn' : m + 1 = n
          · rw [hmn'] at ha
            exact ih x1 h1 e h p ha β w a D hI hE hs hD Q' hQ'
          · exact ihn (m + 1) (by omega) c x1 h1 e h p ha β w a D hI hE hs hD Q' hQ'
        refine hbody _ ?_
        intro β' w' a' q1 q2 q3 q4 q5
        obtain ⟨ex, e1, hp1⟩ := p
        cases ex with
        | norm => exact ihm (by omega) e1 hp1 r hr β' w' a' q2 q3 q4 q5 (fun β2 w2 a2 p1 p2 p3 p4 p5 => hQ β2 w2 a2 (Ext.trans hI q1 p1) p2 p3 p4 p5)
        | exit id => simp only at hr; injection hr with hr; subst hr; exact hQ β' w' a' q1 q2 q3 q4 q5
        | ret => simp only at hr; injection hr with hr; subst hr; exact hQ β' w' a' q1 q2 q3 q4 q5
  | scope c ih =>
    intro x hx e h r hr β w a D hI hE hs hD Q hQ
    simp only [cvC] at hx
    refine wp_scope_straight (ih x hx e h r hr β w a D hI hE hs hD _ ?_)
    intro β' w' a' q1 q2 q3 q4 q5
    have := hQ β' w' a' q1 q2 q3 q4 q5
    obtain ⟨ex, _⟩ := r
    cases ex <;> exact this
  | _ => intro x hx; simp [cvC] at hx
end
end Go.Proofs.YtfgnefnpfgdliaaDoor
