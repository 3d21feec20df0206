/- Arithmetic, comparisons, conversions, structs built, and their equality. -/
import Derived.Test.YtfgnefnpfgdliaaDoorEngF
import Derived.Laws.Strings
namespace Go.Proofs.YtfgnefnpfgdliaaDoor
open Go.RowKit
set_option linter.unusedVariables false
set_option linter.unusedSimpArgs false

section
variable {P : Program} {β β' : Bm} {w w' : World} {h h' : Heap}

theorem good_binI {op : BinOp} {k : IntKind} {a b : Int} {d : DV} {t : TypeId} (hd : binI op k a b = some d) (hs : op ≠ .shl ∧ op ≠ .shr) :
    ∃ v, (binOp op t (.int k a) (.int k b)).run P w = .ok v w ∧ RV β w h d v := by
  cases op <;> simp only [binI] at hd <;> first
    | (injection hd with hd; subst hd; refine ⟨_, ?_, by constructor⟩; simp [binOp, Op.intArith, Op.intCmp, Op.intBits])
    | (split at hd
       · cases hd
       · rename_i hb; injection hd with hd; subst hd; refine ⟨_, ?_, by constructor⟩; simp [binOp, Op.intDiv, hb])
    | cases hd
theorem good_binS {op : BinOp} {a b : ByteArray} {d : DV} {t : TypeId} (hd : binS op a b = some d) :
    ∃ v, (binOp op t (.string a) (.string b)).run P w = .ok v w ∧ RV β w h d v := by
  have he := beq_toListBytes a b
  by_cases ha : op = .add
  · subst ha
    simp only [binS] at hd
    by_cases hb : ((a.size + b.size : Nat) : Int) > 9223372036854775807
    · rw [if_pos hb] at hd; cases hd
    · rw [if_neg hb] at hd
      injection hd with hd; subst hd
      refine ⟨_, ?_, by constructor⟩
      have hb' : ¬ (((a.size + b.size : Nat) : Int) > IntKind.i64.max) := by rw [show IntKind.i64.max = 9223372036854775807 from by decide]; exact hb
      simp only [binOp, Op.stringOp, if_neg hb']
      rfl
  · cases op <;> simp only [binS] at hd <;> first
      | exact absurd rfl ha
      | (injection hd with hd; subst hd; refine ⟨_, ?_, by constructor⟩; simp only [binOp, Op.stringOp, ← he]; rfl)
      | cases hd
theorem good_bin {op : BinOp} {x y d : DV} {u v : Value} {t : TypeId} {ox oy : Operand} (hx : RV β w h x u) (hy : RV β w h y v) (hd : binx op x y = some d) :
    ∃ r, (eqGuard op t ox oy u v).run P w = .ok () w ∧ (binOp op t u v).run P w = .ok r w ∧ RV β w h d r := by
  unfold binx at hd
  split at hd
  · rename_i k a k' b
    cases hx; cases hy
    have hg : (eqGuard op t ox oy (.int k a) (.int k' b)).run P w = .ok () w := by cases op <;> simp [eqGuard]
    split at hd
    · split at hd
      · cases hd
      · rename_i hb
        injection hd with hd; subst hd
        refine ⟨_, hg, ?_, by constructor⟩
        simp [binOp, Op.shift, hb]
    · split at hd
      · cases hd
      · rename_i hb
        injection hd with hd; subst hd
        refine ⟨_, hg, ?_, by constructor⟩
        simp [binOp, Op.shift, hb]
    · rename_i h1 h2
      split at hd
      · rename_i hk
        subst hk
        obtain ⟨r, hr, hv⟩ := good_binI (P := P) (β := β) (w := w) (h := h) (t := t) hd ⟨fun e => h1 e, fun e => h2 e⟩
        exact ⟨r, hg, hr, hv⟩
      · cases hd
  · rename_i a b
    cases hx; cases hy
    obtain ⟨r, hr, hv⟩ := good_binS (P := P) (β := β) (w := w) (h := h) (t := t) hd
    exact ⟨r, by cases op <;> simp [eqGuard], hr, hv⟩
  · cases hd
def kdOk (kd : Nat) (td : TypeDesc) : Prop := match kd with
  | 0 => td = .bool
  | 1 => ∃ e, td = .pointer e
  | 2 => ∃ e, td = .slice e
  | 3 => ∃ k e, td = .map k e
  | 4 => ∃ a b c, td = .func a b c
  | _ => ∃ m, td = .interface m
set_option maxHeartbeats 1000000 in
theorem run_eqk (d : Nat) {kd : Nat} {x y : DV} {u v : Value} {t : TypeId} {td : TypeDesc} {r : Bool} (hx : RV β w h x u) (hy : RV β w h y v) (hd : eqk kd x y = some r) (ht : P.underlying t = some td)
    (hk : kdOk kd td) : (Op.equalIn (d + 1) t u v).run P w = .ok r w ∧ (∀ k a, u ≠ .int k a) ∧ (∀ s, u ≠ .string s) ∧ (∀ k a b, u ≠ .complex k a b) ∧ (∀ k a, u ≠ .float k a) ∧ (∀ c, u ≠ .agg c) ∧ (u = .nilIface → kd = 5) := by
  unfold eqk at hd
  split at hd <;> cases hd
  all_goals (cases hx; cases hy)
  all_goals (simp only [kdOk] at hk)
  case h_1 => subst hk; exact ⟨by simp only [Op.equalIn, Sem.run_bind, run_underlying ht, Result.andThen_ok]; rfl, by simp, by simp, by simp, by simp, by simp, by simp⟩
  case h_2 | h_3 | h_4 | h_5 | h_6 | h_7 => obtain ⟨_, rfl⟩ := hk; exact ⟨by simp only [Op.equalIn, Sem.run_bind, run_underlying ht, Result.andThen_ok]; rfl, by simp, by simp, by simp, by simp, by simp, by simp⟩
  case h_8 | h_9 => obtain ⟨_, _, rfl⟩ := hk; exact ⟨by simp only [Op.equalIn, Sem.run_bind, run_underlying ht, Result.andThen_ok]; rfl, by simp, by simp, by simp, by simp, by simp, by simp⟩
  case h_10 | h_11 => obtain ⟨_, _, _, rfl⟩ := hk; exact ⟨by simp only [Op.equalIn, Sem.run_bind, run_underlying ht, Result.andThen_ok]; rfl, by simp, by simp, by simp, by simp, by simp, by simp⟩
  case h_12 | h_13 => obtain ⟨_, rfl⟩ := hk; exact ⟨by simp only [Op.equalIn, Sem.run_bind, run_underlying ht, Result.andThen_ok]; rfl, by simp, by simp, by simp, by simp, by simp, by simp⟩
theorem binOp_eq {t : TypeId} {u v : Value} (h1 : ∀ k a, u ≠ .int k a) (h2 : ∀ s, u ≠ .string s) (h3 : ∀ k a b, u ≠ .complex k a b) (h4 : ∀ k a, u ≠ .float k a) :
    binOp .eql t u v = (do pure (.bool (← Op.equal t u v))) ∧ binOp .neq t u v = (do pure (.bool (!(← Op.equal t u v)))) := by
  cases u <;> first
    | exact absurd rfl (h1 _ _)
    | exact absurd rfl (h2 _)
    | exact absurd rfl (h3 _ _ _)
    | exact absurd rfl (h4 _ _)
    | (constructor <;> cases v <;> rfl)
theorem good_eqk {kd : Nat} {neg : Bool} {x y : DV} {u v : Value} {t : TypeId} {td : TypeDesc} {r : Bool} {ox oy : Operand} (hx : RV β w h x u) (hy : RV β w h y v) (hd : eqk kd x y = some r) (ht : P.underlying t = some td)
    (hk : kdOk kd td) (hc : kd = 5 → isConst' ox = true ∨ isConst' oy = true) :
    (eqGuard (if neg = true then .neq else .eql) t ox oy u v).run P w = .ok () w ∧ (binOp (if neg = true then .neq else .eql) t u v).run P w = .ok (.bool (if neg = true then !r else r)) w := by
  obtain ⟨h0, h1, h2, h3, h4, h5, h6⟩ := run_eqk 9999 hx hy hd ht hk
  have hE : (Op.equal t u v).run P w = .ok r w := h0
  obtain ⟨e1, e2⟩ := binOp_eq (t := t) (v := v) h1 h2 h3 h4
  constructor
  · by_cases hn : u = .nilIface
    · have hc' := hc (h6 hn)
      subst hn
      unfold eqGuard
      cases neg <;> (cases v <;> first
        | rfl
        | (simp only [Bool.false_eq_true, if_false, if_true, Bool.not_true]
           simp
           intro p q
           exfalso
           rcases hc' with hc' | hc'
           · cases ox <;> first | (simp [isConst'] at hc'; done) | (simp at p; done)
           · cases oy <;> first | (simp [isConst'] at hc'; done) | (simp at q; done)))
    · unfold eqGuard
      cases u <;> first
        | exact absurd rfl (h5 _)
        | exact absurd rfl hn
        | (cases neg <;> simp)
  · cases neg <;> simp [e1, e2, hE]
theorem eqs0 {c c' : DV} {q : Bool} (h : eqs 0 c c' = some q) : ∃ a b, c = .bool a ∧ c' = .bool b ∧ q = (a == b) := by
  unfold eqs at h
  split at h <;> first | (injection h with h; exact ⟨_, _, rfl, rfl, h.symm⟩) | (rename_i hk; cases hk) | cases h
theorem eqs1 {c c' : DV} {q : Bool} (h : eqs 1 c c' = some q) : ∃ k a b, c = .int k a ∧ c' = .int k b ∧ q = (a == b) := by
  unfold eqs at h
  split at h
  · rename_i hk; cases hk
  · split at h
    · rename_i hk; subst hk; injection h with h; exact ⟨_, _, _, rfl, rfl, h.symm⟩
    · cases h
  · rename_i hk; cases hk
  · cases h
theorem eqs2 {c c' : DV} {q : Bool} (h : eqs 2 c c' = some q) : ∃ a b, c = .str a ∧ c' = .str b ∧ q = (a == b) := by
  unfold eqs at h
  split at h <;> first | (injection h with h; exact ⟨_, _, rfl, rfl, h.symm⟩) | (rename_i hk; cases hk) | cases h
/-- A struct's '==', cell by cell. -/
theorem run_eqFields (d : Nat) : ∀ (fs : List Field) (n : Nat) (ks : List Nat) (cs ds : List DV) (xs ys : List Value), flatF P fs n = some ks → RVs β w h cs (xs.drop n) → RVs β w h ds (ys.drop n) → ∀ r, eqcs ks cs ds = some r →
    (Op.eqFields (d + 1) xs.toArray ys.toArray fs).run P w = .ok r w := by
  intro fs
  induction fs with
  | nil =>
    intro n ks cs ds xs ys hf h1 h2 r hr
    simp only [flatF] at hf
    injection hf with hf; subst hf
    cases cs with
    | nil =>
      cases ds with
      | nil => simp only [eqcs] at hr; injection hr with hr; subst hr; simp [Op.eqFields]
      | cons _ _ => simp [eqcs] at hr
    | cons _ _ => simp [eqcs] at hr
  | cons f fs ih =>
    intro n ks cs ds xs ys hf h1 h2 r hr
    simp only [flatF] at hf
    split at hf
    · rename_i hc
      obtain ⟨hf1, hf2⟩ := hc
      obtain ⟨k, ks', hks, hf4, hkk⟩ : ∃ k ks', ks = k :: ks' ∧ flatF P fs (n + 1) = some ks' ∧ ((k = 0 ∧ P.underlying f.type = some .bool) ∨ (k = 1 ∧ ∃ q, P.underlying f.type = some (.int q)) ∨ (k = 2 ∧ P.underlying f.type = some .string)) := by
        split at hf <;> first | cases hf | skip
        all_goals (rename_i h1 h2)
        · exact ⟨0, _, rfl, h2, .inl ⟨rfl, h1⟩⟩
        · exact ⟨1, _, rfl, h2, .inr (.inl ⟨rfl, _, h1⟩)⟩
        · exact ⟨2, _, rfl, h2, .inr (.inr ⟨rfl, h1⟩)⟩
      subst hks
      cases cs with
      | nil => simp [eqcs] at hr
      | cons c cs =>
      cases ds with
      | nil => simp [eqcs] at hr
      | cons c' ds =>
        simp only [eqcs] at hr
        cases hq : eqs k c c' with
        | none => rw [hq] at hr; cases hr
        | some q =>
          rw [hq] at hr
          simp only at hr
          cases hq2 : eqcs ks' cs ds with
          | none => rw [hq2] at hr; cases hr
          | some q2 =>
            rw [hq2] at hr
            injection hr with hr; subst hr
            generalize hX : xs.drop n = X at h1
            generalize hY : ys.drop n = Y at h2
            cases h1 with
            | cons hd1 hs1 =>
            cases h2 with
            | cons hd2 hs2 =>
            rename_i v1 vs1 v2 vs2
            have g1 : xs[n]? = some v1 := by have := congrArg (fun l => l[0]?) hX; simpa using this
            have g2 : ys[n]? = some v2 := by have := congrArg (fun l => l[0]?) hY; simpa using this
            have hx1 : xs.drop (n + 1) = vs1 := by rw [← List.drop_drop, hX]; rfl
            have hy1 : ys.drop (n + 1) = vs2 := by rw [← List.drop_drop, hY]; rfl
            have ih' := ih (n + 1) ks' cs ds xs ys hf4 (by rw [hx1]; exact hs1) (by rw [hy1]; exact hs2) q2 hq2
            have hag : tyAgg P f.type = some false := by
              unfold tyAgg
              rcases hkk with ⟨_, hu⟩ | ⟨_, _, hu⟩ | ⟨_, hu⟩ <;> rw [hu]
            have hp : ∀ (zs : List Value) v, zs[n]? = some v → (part f.type zs.toArray f.offset).run P w = .ok v w := by
              intro zs v hz
              simp only [part, Sem.run_bind, run_isAgg hag, Result.andThen_ok, Bool.false_eq_true, if_false, hf2]
              simp [hz]
            have hee : (Op.equalIn (d + 1) f.type v1 v2).run P w = .ok q w := by
              rcases hkk with ⟨rfl, hu⟩ | ⟨rfl, _, hu⟩ | ⟨rfl, hu⟩
              · obtain ⟨a, b, rfl, rfl, rfl⟩ := eqs0 hq
                cases hd1; cases hd2
                simp only [Op.equalIn, Sem.run_bind, run_underlying hu, Result.andThen_ok]; rfl
              · obtain ⟨k, a, b, rfl, rfl, rfl⟩ := eqs1 hq
                cases hd1; cases hd2
                simp only [Op.equalIn, Sem.run_bind, run_underlying hu, Result.andThen_ok, if_true]; rfl
              · obtain ⟨a, b, rfl, rfl, rfl⟩ := eqs2 hq
                cases hd1; cases hd2
                simp only [Op.equalIn, Sem.run_bind, run_underlying hu, Result.andThen_ok]; rfl
            simp only [Op.eqFields, hf1, ne_eq, not_false_eq_true, if_true, Sem.run_bind, hp xs v1 g1, hp ys v2 g2, Result.andThen_ok, hee]
            cases q with
            | false => simp
            | true => simpa using ih'
    · cases hf
theorem good_eqa {neg : Bool} {ks : List Nat} {cs ds : List DV} {u v : Value} {t : TypeId} {r : Bool} {ox oy : Operand} (hx : RV β w h (.agg cs) u) (hy : RV β w h (.agg ds) v) (hd : eqcs ks cs ds = some r) (ht : flatS P t = some ks) :
    (eqGuard (if neg = true then .neq else .eql) t ox oy u v).run P w = .ok () w ∧ (binOp (if neg = true then .neq else .eql) t u v).run P w = .ok (.bool (if neg = true then !r else r)) w := by
  cases hx with
  | agg hr1 =>
  cases hy with
  | agg hr2 =>
  rename_i vs us
  unfold flatS at ht
  split at ht
  · rename_i fs hu
    split at ht
    · rename_i hc
      have hu' : P.underlying t = some (.struct (P.fieldsOf t)) := by simp [Program.fieldsOf, hu]
      have hfs : P.fieldsOf t = fs := by simp [Program.fieldsOf, hu]
      have h0 : (Op.equal t (.agg vs.toArray) (.agg us.toArray)).run P w = .ok r w := by
        have h1 := run_equalIn_struct (P := P) w 9999 t vs.toArray us.toArray hu' hc.1
        have h2 := run_eqFields (P := P) (β := β) (w := w) (h := h) 9998 fs.toList 0 ks cs ds vs us ht (by simpa using hr1) (by simpa using hr2) r hd
        rw [hfs] at h1
        exact h1.trans h2
      obtain ⟨e1, e2⟩ := binOp_eq (t := t) (u := .agg vs.toArray) (v := .agg us.toArray) (by simp) (by simp) (by simp) (by simp)
      constructor
      · cases neg <;> simp [eqGuard, hc.2]
      · cases neg <;> simp [e1, e2, h0]
    · cases ht
  · cases ht
end
end Go.Proofs.YtfgnefnpfgdliaaDoor
