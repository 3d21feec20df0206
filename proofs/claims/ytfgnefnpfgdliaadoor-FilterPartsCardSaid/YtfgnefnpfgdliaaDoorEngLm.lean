/- Maps. -/
import Derived.Test.YtfgnefnpfgdliaaDoorEngL
import Derived.MapKept
namespace Go.Proofs.YtfgnefnpfgdliaaDoor
open Go.RowKit
set_option linter.unusedVariables false
set_option linter.unusedSimpArgs false

section
variable {P : Program} {β β' : Bm} {w w' : World} {h h' : Heap}

theorem run_forIn {γ : Type} (g : γ → PUnit → Sem (ForInStep PUnit)) : ∀ (l : List γ), (∀ x ∈ l, (g x ⟨⟩).run P w = .ok (.yield ⟨⟩) w) → (forIn l PUnit.unit g : Sem PUnit).run P w = .ok ⟨⟩ w
  | [], _ => rfl
  | x :: l, hg => by
    rw [List.forIn_cons, Sem.run_bind, hg x (by simp)]
    simp only [Result.andThen_ok]
    exact run_forIn g l (fun y hy => hg y (by simp [hy]))

theorem checkKey_scalar {t : TypeId} {td : TypeDesc} {v : Value} (b : Bool) (n : Nat) (hu : P.underlying t = some td) (hs : td = .bool ∨ (∃ q, td = .int q) ∨ td = .string) : (Instr.checkKey b (n + 1) t v).run P w = .ok () w := by
  unfold Instr.checkKey
  rw [Sem.run_bind, run_underlying hu]
  simp only [Result.andThen_ok]
  rcases hs with rfl | ⟨q, rfl⟩ | rfl <;> rfl
theorem flatF_mem {fs : List Field} : ∀ {n : Nat} {ks : List Nat}, flatF P fs n = some ks → ks.length = fs.length ∧ ∀ (i : Nat) f, fs[i]? = some f → f.offset = n + i ∧ tyAgg P f.type = some false ∧ ∃ td, P.underlying f.type = some td ∧ (td = .bool ∨ (∃ q, td = .int q) ∨ td = .string) := by
  induction fs with
  | nil => intro n ks h; simp [flatF] at h; subst h; exact ⟨rfl, fun i f hf => by simp at hf⟩
  | cons f0 fs ih =>
    intro n ks h
    simp only [flatF] at h
    split at h
    · rename_i hc
      have hk : ∃ k ks', ks = k :: ks' ∧ flatF P fs (n + 1) = some ks' ∧ ∃ td, P.underlying f0.type = some td ∧ (td = .bool ∨ (∃ q, td = .int q) ∨ td = .string) := by
        split at h <;> first | cases h | skip
        all_goals (rename_i h1 h2)
        · exact ⟨0, _, rfl, h2, _, h1, .inl rfl⟩
        · exact ⟨1, _, rfl, h2, _, h1, .inr (.inl ⟨_, rfl⟩)⟩
        · exact ⟨2, _, rfl, h2, _, h1, .inr (.inr rfl)⟩
      obtain ⟨k, ks', rfl, h1, h2⟩ := hk
      obtain ⟨q1, q2⟩ := ih h1
      refine ⟨by simp [q1], fun i f hf => ?_⟩
      cases i with
      | zero =>
        simp at hf; subst hf
        refine ⟨hc.2, ?_, h2⟩
        obtain ⟨td, h3, h4⟩ := h2
        unfold tyAgg; rw [h3]
        rcases h4 with rfl | ⟨q, rfl⟩ | rfl <;> rfl
      | succ i =>
        have := q2 i f (by simpa using hf)
        refine ⟨by omega, this.2⟩
    · cases h
theorem eqcs_len : ∀ {ks : List Nat} {a b : List DV} {r : Bool}, eqcs ks a b = some r → ks.length = a.length ∧ ks.length = b.length
  | [], [], [], _, _ => ⟨rfl, rfl⟩
  | [], [], _ :: _, _, h => by simp [eqcs] at h
  | [], _ :: _, _, _, h => by simp [eqcs] at h
  | _ :: _, [], _, _, h => by simp [eqcs] at h
  | _ :: _, _ :: _, [], _, h => by simp [eqcs] at h
  | k :: ks, a :: x, b :: y, r, h => by
    simp only [eqcs] at h
    split at h
    · split at h
      · rename_i h2
        have := eqcs_len h2
        simp [this.1, this.2]
        omega
      · cases h
    · cases h

theorem run_equal_struct {ks : List Nat} {cs ds : List DV} {u v : Value} {t : TypeId} {r : Bool} (hx : RV β w h (.agg cs) u) (hy : RV β w h (.agg ds) v) (hd : eqcs ks cs ds = some r) (ht : flatS P t = some ks) :
    (Op.equal t u v).run P w = .ok r w := by
  cases hx with
  | agg hr1 =>
  cases hy with
  | agg hr2 =>
  rename_i vs us
  unfold flatS at ht
  split at ht
  · rename_i fs hu
    split at ht
    · rename_i hc
      have hu' : P.underlying t = some (.struct (P.fieldsOf t)) := by simp [Program.fieldsOf, hu]
      have hfs : P.fieldsOf t = fs := by simp [Program.fieldsOf, hu]
      have h1 := run_equalIn_struct (P := P) w 9999 t vs.toArray us.toArray hu' hc.1
      have h2 := run_eqFields (P := P) (β := β) (w := w) (h := h) 9998 fs.toList 0 ks cs ds vs us ht (by simpa using hr1) (by simpa using hr2) r hd
      rw [hfs] at h1
      exact h1.trans h2
    · cases ht
  · cases ht

theorem run_checkKey' {t : TypeId} {ag : Bool} {ks : List Nat} {k : DV} {v : Value} (b : Bool) (n : Nat) (hk : keyKind P t = some (ag, ks)) (hr : RV β w h k v) (hq : (keq ag ks k k).isSome = true) : (Instr.checkKey b (n + 2) t v).run P w = .ok () w := by
  unfold keyKind at hk
  split at hk
  · rename_i hu; exact checkKey_scalar b (n + 1) hu (.inl rfl)
  · rename_i hu; exact checkKey_scalar b (n + 1) hu (.inr (.inl ⟨_, rfl⟩))
  · rename_i hu; exact checkKey_scalar b (n + 1) hu (.inr (.inr rfl))
  · rename_i fs hu
    split at hk
    · rename_i ks' hks
      injection hk with hk; injection hk with hk1 hk2; subst hk1; subst hk2
      unfold flatS at hks
      rw [hu] at hks
      simp only at hks
      split at hks
      case isFalse => cases hks
      obtain ⟨hlen, hmem⟩ := flatF_mem hks
      have hag : ∃ cs, k = .agg cs ∧ cs.length = fs.toList.length := by
        simp only [keq, if_true] at hq
        split at hq
        · rename_i x y
          obtain ⟨r, hr'⟩ := Option.isSome_iff_exists.1 hq
          exact ⟨_, rfl, by have := eqcs_len hr'; omega⟩
        · simp at hq
      obtain ⟨cs, rfl, hcl⟩ := hag
      cases hr with
      | agg hrs =>
        rename_i vs
        unfold Instr.checkKey
        rw [Sem.run_bind, run_underlying hu]
        simp only [Result.andThen_ok]
        rw [← Array.forIn_toList]
        rw [Sem.run_bind, run_forIn]
        · rfl
        · intro f hf
          obtain ⟨i, hi⟩ := List.mem_iff_getElem?.1 hf
          obtain ⟨ho, hagg, td, hu2, htd⟩ := hmem i f hi
          have hil : i < vs.length := by have := (List.getElem?_eq_some_iff.1 hi).1; have := hrs.len; omega
          have hp : (part f.type vs.toArray f.offset).run P w = .ok vs[i] w := by
            simp only [part, Sem.run_bind, run_isAgg hagg, Result.andThen_ok, Bool.false_eq_true, if_false, ho, Nat.zero_add]
            simp [hil]
          split
          · rw [Sem.run_bind, hp]
            simp only [Result.andThen_ok]
            rw [Sem.run_bind, checkKey_scalar b n hu2 htd]
            rfl
          · rfl
    · cases hk
  · cases hk

theorem bytes_same {a b : ByteArray} (h : (a == b) = true) : a = b := by
  cases a with
  | mk x =>
  cases b with
  | mk y =>
  have : (x == y) = true := h
  rw [eq_of_beq this]
theorem eqs_same {k : Nat} {a b : DV} {u v : Value} (h1 : RV β w h a u) (h2 : RV β w h b v) (he : eqs k a b = some true) : u = v := by
  unfold eqs at he
  split at he
  · injection he with he; have hr := eq_of_beq he; subst hr; cases h1; cases h2; rfl
  · split at he
    · rename_i hk; subst hk; injection he with he; have hr := eq_of_beq he; subst hr; cases h1; cases h2; rfl
    · cases he
  · injection he with he; have hr := bytes_same he; subst hr; cases h1; cases h2; rfl
  · cases he
theorem eqcs_same : ∀ {ks : List Nat} {a b : List DV} {u v : List Value}, RVs β w h a u → RVs β w h b v → eqcs ks a b = some true → u = v
  | [], [], [], _, _, h1, h2, _ => by cases h1; cases h2; rfl
  | [], [], _ :: _, _, _, _, _, he => by simp [eqcs] at he
  | [], _ :: _, _, _, _, _, _, he => by simp [eqcs] at he
  | _ :: _, [], _, _, _, _, _, he => by simp [eqcs] at he
  | _ :: _, _ :: _, [], _, _, _, _, he => by simp [eqcs] at he
  | k :: ks, a :: x, b :: y, _, _, .cons h1 hs1, .cons h2 hs2, he => by
    simp only [eqcs] at he
    cases hq : eqs k a b with
    | none => rw [hq] at he; cases he
    | some q =>
      rw [hq] at he
      cases hq2 : eqcs ks x y with
      | none => rw [hq2] at he; cases he
      | some q2 =>
        rw [hq2] at he
        injection he with he
        simp at he
        obtain ⟨rfl, rfl⟩ := he
        rw [eqs_same h1 h2 hq, eqcs_same hs1 hs2 hq2]
theorem keq_same {ag : Bool} {ks : List Nat} {a b : DV} {u v : Value} (h1 : RV β w h a u) (h2 : RV β w h b v) (he : keq ag ks a b = some true) : u = v := by
  unfold keq at he
  split at he
  · split at he
    · cases h1 with
      | agg r1 => cases h2 with
        | agg r2 => rw [eqcs_same r1 r2 he]
    · cases he
  · split at he
    · exact eqs_same h1 h2 he
    · cases he

/-- What has been found: nothing, or the entry at j. -/
def Hit (β : Bm) (w : World) (h : Heap) (ag : Bool) (ks : List Nat) (k : DV) (kv : Value) (es : List (DV × DV)) (ms : List MapEntry) (i : Nat) (r : Option DV) (a : Option (Nat × Value)) : Prop :=
  (r = none ∧ a = none ∧ ∀ v, mput ag ks k v es = some (es ++ [(k, v)])) ∨
  ∃ j d m, r = some d ∧ ms[j]? = some m ∧ m.key = kv ∧ RV β w h d m.val ∧ a = some (i + j, m.val) ∧ ∀ v, mput ag ks k v es = some (es.set j (k, v))
theorem hit_step {ag : Bool} {ks : List Nat} {k : DV} {kv : Value} {a0 v0 : DV} {es : List (DV × DV)} {m0 : MapEntry} {ms : List MapEntry} {i : Nat} {r : Option DV} {a : Option (Nat × Value)} (hq : keq ag ks k a0 = some false)
    (hh : Hit β w h ag ks k kv es ms (i + 1) r a) : Hit β w h ag ks k kv ((a0, v0) :: es) (m0 :: ms) i r a := by
  rcases hh with ⟨rfl, rfl, q⟩ | ⟨j, d, m, rfl, q2, q3, q4, rfl, q6⟩
  · exact .inl ⟨rfl, rfl, fun v => by simp only [mput, hq, q v, Option.map_some]; rfl⟩
  · exact .inr ⟨j + 1, d, m, rfl, by simpa using q2, q3, q4, by rw [Nat.add_assoc, Nat.add_comm 1 j], fun v => by simp only [mput, hq, q6 v, Option.map_some]; rfl⟩
theorem find_now {td : TypeDesc} {ag : Bool} {ks : List Nat} {k : DV} {kv : Value} (hk : RV β w h k kv) (hsame : ∀ {a : DV} {av : Value} {r : Bool}, RV β w h a av → keq ag ks k a = some r → Instr.sameNow td kv av = some r) :
    ∀ {es : List (DV × DV)} {ms : List MapEntry} {i : Nat} {r : Option DV}, RVs β w h (es.map (·.1)) (ms.map (·.key)) → RVs β w h (es.map (·.2)) (ms.map (·.val)) → mfind ag ks k es = some r →
    ∃ a, Instr.findNow td kv ms i = some a ∧ Hit β w h ag ks k kv es ms i r a
  | [], [], i, r, h1, h2, hf => by
    simp only [mfind] at hf
    injection hf with hf; subst hf
    exact ⟨none, rfl, .inl ⟨rfl, rfl, fun v => rfl⟩⟩
  | [], _ :: _, i, r, h1, h2, hf => by have := h1.len; simp at this
  | _ :: _, [], i, r, h1, h2, hf => by have := h1.len; simp at this
  | (a0, v0) :: es, m0 :: ms, i, r, .cons hk0 hks, .cons hv0 hvs, hf => by
    simp only [mfind] at hf
    split at hf
    · rename_i hq
      injection hf with hf; subst hf
      refine ⟨some (i, m0.val), ?_, .inr ⟨0, v0, m0, rfl, rfl, (keq_same hk hk0 hq).symm, hv0, rfl, fun v => by simp only [mput, hq]; rfl⟩⟩
      simp only [Instr.findNow, hsame hk0 hq]
    · rename_i hq
      obtain ⟨a, g1, g2⟩ := find_now hk hsame (i := i + 1) hks hvs hf
      exact ⟨a, by simp only [Instr.findNow, hsame hk0 hq]; exact g1, hit_step hq g2⟩
    · cases hf
theorem find_asking {t : TypeId} {ag : Bool} {ks : List Nat} {k : DV} {kv : Value} (hk : RV β w h k kv) (hsame : ∀ {a : DV} {av : Value} {r : Bool}, RV β w h a av → keq ag ks k a = some r → (Op.equal t kv av).run P w = .ok r w) :
    ∀ {es : List (DV × DV)} {ms : List MapEntry} {i : Nat} {r : Option DV}, RVs β w h (es.map (·.1)) (ms.map (·.key)) → RVs β w h (es.map (·.2)) (ms.map (·.val)) → mfind ag ks k es = some r →
    ∃ a, (Instr.findAsking t kv ms i).run P w = .ok a w ∧ Hit β w h ag ks k kv es ms i r a
  | [], [], i, r, h1, h2, hf => by
    simp only [mfind] at hf
    injection hf with hf; subst hf
    exact ⟨none, rfl, .inl ⟨rfl, rfl, fun v => rfl⟩⟩
  | [], _ :: _, i, r, h1, h2, hf => by have := h1.len; simp at this
  | _ :: _, [], i, r, h1, h2, hf => by have := h1.len; simp at this
  | (a0, v0) :: es, m0 :: ms, i, r, .cons hk0 hks, .cons hv0 hvs, hf => by
    simp only [mfind] at hf
    split at hf
    · rename_i hq
      injection hf with hf; subst hf
      refine ⟨some (i, m0.val), ?_, .inr ⟨0, v0, m0, rfl, rfl, (keq_same hk hk0 hq).symm, hv0, rfl, fun v => by simp only [mput, hq]; rfl⟩⟩
      simp only [Instr.findAsking, Sem.run_bind, hsame hk0 hq, Result.andThen_ok, if_true]
      rfl
    · rename_i hq
      obtain ⟨a, g1, g2⟩ := find_asking hk hsame (i := i + 1) hks hvs hf
      exact ⟨a, by simp only [Instr.findAsking, Sem.run_bind, hsame hk0 hq, Result.andThen_ok, Bool.false_eq_true, if_false]; exact g1, hit_step hq g2⟩
    · cases hf
theorem findNow_struct {td : TypeDesc} (hs : ∃ fs, td = .struct fs) {kv : Value} {m : MapEntry} {ms : List MapEntry} {i : Nat} : Instr.findNow td kv (m :: ms) i = none := by
  obtain ⟨fs, rfl⟩ := hs
  simp [Instr.findNow, Instr.sameNow]
theorem find_ok {t : TypeId} {ag : Bool} {ks : List Nat} {k : DV} {kv : Value} (ht : keyKind P t = some (ag, ks)) (hk : RV β w h k kv) {es : List (DV × DV)} {ms : List MapEntry} {r : Option DV}
    (h1 : RVs β w h (es.map (·.1)) (ms.map (·.key))) (h2 : RVs β w h (es.map (·.2)) (ms.map (·.val))) (hf : mfind ag ks k es = some r) :
    ∃ a, (Instr.findKey t kv ms).run P w = .ok a w ∧ Hit β w h ag ks k kv es ms 0 r a := by
  have now : ∀ td, P.underlying t = some td → (∀ {a : DV} {av : Value} {r : Bool}, RV β w h a av → keq ag ks k a = some r → Instr.sameNow td kv av = some r) → ∃ a, (Instr.findKey t kv ms).run P w = .ok a w ∧ Hit β w h ag ks k kv es ms 0 r a := by
    intro td hu hsame
    obtain ⟨a, g1, g2⟩ := find_now hk hsame (i := 0) h1 h2 hf
    refine ⟨a, ?_, g2⟩
    unfold Instr.findKey
    rw [Sem.run_bind, run_underlying hu]
    simp only [Result.andThen_ok, g1]
    rfl
  unfold keyKind at ht
  split at ht
  · rename_i hu
    injection ht with ht; injection ht with e1 e2; subst e1; subst e2
    refine now _ hu (fun hr hq => ?_)
    simp only [keq, Bool.false_eq_true, if_false] at hq
    obtain ⟨a, b, rfl, rfl, rfl⟩ := eqs0 hq
    cases hk; cases hr; rfl
  · rename_i hu
    injection ht with ht; injection ht with e1 e2; subst e1; subst e2
    refine now _ hu (fun hr hq => ?_)
    simp only [keq, Bool.false_eq_true, if_false] at hq
    obtain ⟨q, a, b, rfl, rfl, rfl⟩ := eqs1 hq
    cases hk; cases hr; simp [Instr.sameNow]
  · rename_i hu
    injection ht with ht; injection ht with e1 e2; subst e1; subst e2
    refine now _ hu (fun hr hq => ?_)
    simp only [keq, Bool.false_eq_true, if_false] at hq
    obtain ⟨a, b, rfl, rfl, rfl⟩ := eqs2 hq
    cases hk; cases hr; rfl
  · rename_i fs hu
    split at ht
    · rename_i ks' hks
      injection ht with ht; injection ht with e1 e2; subst e1; subst e2
      obtain ⟨a, g1, g2⟩ := find_asking (P := P) (t := t) hk (fun {a av r} hr hq => by
        simp only [keq, if_true] at hq
        split at hq
        · exact run_equal_struct hk hr hq hks
        · cases hq) (i := 0) h1 h2 hf
      refine ⟨a, ?_, g2⟩
      unfold Instr.findKey
      rw [Sem.run_bind, run_underlying hu]
      simp only [Result.andThen_ok]
      cases ms with
      | nil =>
        simp only [Instr.findAsking] at g1
        simpa [Instr.findNow] using g1
      | cons m ms =>
        rw [findNow_struct ⟨_, rfl⟩]
        exact g1
    · cases ht
  · cases ht

theorem bits_scalar {k : Nat} {a : DV} {v : Value} (n : Nat) (hr : RV β w h a v) (he : (eqs k a a).isSome = true) : Instr.sameBits n v v = true := by
  unfold eqs at he
  split at he
  · cases hr; cases n <;> simp [Instr.sameBits]
  · cases hr; cases n <;> simp [Instr.sameBits]
  · cases hr; cases n <;> (simp only [Instr.sameBits]; exact (Go.MapKept.bytes_beq _ _).2 rfl)
  · cases he
theorem RVs.set : ∀ {ds : List DV} {us : List Value} (j : Nat) {d : DV} {u : Value}, RVs β w h ds us → RV β w h d u → RVs β w h (ds.set j d) (us.set j u)
  | [], _, j, _, _, .nil, _ => .nil
  | _ :: _, _, 0, _, _, .cons _ h2, hd => .cons hd h2
  | _ :: _, _, j + 1, _, _, .cons h1 h2, hd => .cons h1 (RVs.set j h2 hd)
theorem bits_list : ∀ {ks : List Nat} {cs : List DV} {vs : List Value} (n : Nat), RVs β w h cs vs → (eqcs ks cs cs).isSome = true → (vs.zip vs).all (fun (x, y) => Instr.sameBits n x y) = true
  | [], [], _, n, .nil, _ => rfl
  | _ :: _, [], _, n, .nil, _ => rfl
  | [], _ :: _, _, n, _, he => by simp [eqcs] at he
  | k :: ks, a :: cs, _, n, .cons h1 hs1, he => by
    simp only [eqcs] at he
    cases hq : eqs k a a with
    | none => rw [hq] at he; cases he
    | some q =>
      rw [hq] at he
      cases hq2 : eqcs ks cs cs with
      | none => rw [hq2] at he; cases he
      | some q2 =>
        simp only [List.zip_cons_cons, List.all_cons, Bool.and_eq_true]
        exact ⟨bits_scalar n h1 (by rw [hq]; rfl), bits_list n hs1 (by rw [hq2]; rfl)⟩
theorem bits_key {ag : Bool} {ks : List Nat} {k : DV} {v : Value} (n : Nat) (hr : RV β w h k v) (he : (keq ag ks k k).isSome = true) : Instr.sameBits (n + 1) v v = true := by
  unfold keq at he
  split at he
  · split at he
    · cases hr with
      | agg hrs =>
        simp only [Instr.sameBits, beq_self_eq_true, Bool.true_and]
        exact bits_list n hrs he
    · cases he
  · split at he
    · exact bits_scalar (n + 1) hr he
    · cases he

theorem good_mkmap (hI : Inv β w h) {t kt et : TypeId} {r : Option Value} (ht : P.underlying t = some (.map kt et)) (hr : ∀ v, r = some v → ∃ k n, v = .int k n) :
    ∃ v w' β', (Instr.makeMap t r).run P w = .ok v w' ∧ Ext β w h β' w' (h ++ [.map 0 0 []]) ∧ Inv β' w' (h ++ [.map 0 0 []]) ∧ RV β' w' (h ++ [.map 0 0 []]) (.map h.length) v := by
  have he := Ext.alloc hI (.map #[] 0) (.map 0 0 [])
  have hi := Inv.alloc hI (.map #[] 0) (.map 0 0 []) ⟨#[], 0, alloc_new' _ _, .nil, .nil⟩
  refine ⟨.map (some w.heap.size), w.alloc (.map #[] 0), _, ?_, he, hi, .map (upd_self _ _ _) (last_get _ _)⟩
  cases r with
  | none => rfl
  | some v =>
    obtain ⟨k, n, rfl⟩ := hr v rfl
    unfold Instr.makeMap
    simp only [Sem.run_bind, run_underlying ht, Result.andThen_ok, asInt, asIntOf, Sem.run_pure]
    rfl

theorem good_mget (hI : Inv β w h) {t kt et : TypeId} {ag ok : Bool} {ks : List Nat} {m k z : DV} {mv kv zv : Value} {r : Option DV} (ht : P.underlying t = some (.map kt et)) (hkk : keyKind P kt = some (ag, ks)) (hz : tyZero P et = some zv) (hzr : RV β w h z zv)
    (hm : RV β w h m mv) (hk : RV β w h k kv) (hkq : (keq ag ks k k).isSome = true)
    (hf : mlook ag ks h m k = some r) :
    ∃ v, (Instr.lookup t mv kv ok).run P w = .ok v w ∧ RV β w h (if ok = true then .tup [r.getD z, .bool r.isSome] else r.getD z) v := by
  unfold mlook at hf
  have fin : ∀ (es : Array MapEntry), (Instr.lookup t mv kv ok).run P w = (do
        Instr.checkKey es.isEmpty 10000 kt kv
        let (v, ok') ← match ← Instr.findKey kt kv es.toList with
          | some (_, v) => pure (v, true)
          | none => pure (← zeroValue et, false)
        pure (if ok then .tuple #[v, .bool ok'] else v) : Sem Value).run P w → (∃ a, (Instr.findKey kt kv es.toList).run P w = .ok a w ∧ ((r = none ∧ a = none) ∨ ∃ d i u, r = some d ∧ a = some (i, u) ∧ RV β w h d u)) →
      ∃ v, (Instr.lookup t mv kv ok).run P w = .ok v w ∧ RV β w h (if ok = true then .tup [r.getD z, .bool r.isSome] else r.getD z) v := by
    intro es hes ⟨a, ha, hra⟩
    rw [hes, Sem.run_bind, run_checkKey' es.isEmpty 9998 hkk hk hkq]
    simp only [Result.andThen_ok]
    rw [Sem.run_bind, ha]
    simp only [Result.andThen_ok]
    rcases hra with ⟨rfl, rfl⟩ | ⟨d, i, u, rfl, rfl, hru⟩
    · simp only [Sem.run_bind, run_zeroValue hz, Result.andThen_ok, Sem.run_pure]
      refine ⟨_, rfl, ?_⟩
      cases ok
      · exact hzr
      · exact .tup (.cons hzr (.cons (.bool _) .nil))
    · simp only [Sem.run_bind, Result.andThen_ok, Sem.run_pure]
      refine ⟨_, rfl, ?_⟩
      cases ok
      · exact hru
      · exact .tup (.cons hru (.cons (.bool _) .nil))
  cases hm with
  | nilm =>
    simp only at hf
    injection hf with hf; subst hf
    refine fin #[] ?_ ?_
    · unfold Instr.lookup
      rw [Sem.run_bind, run_underlying ht]
      simp only [Result.andThen_ok]
      rw [Sem.run_bind]
      rfl
    obtain ⟨a, g1, g2⟩ := find_ok (P := P) hkk hk (es := []) (ms := []) (r := none) .nil .nil rfl
    refine ⟨a, g1, .inl ⟨rfl, ?_⟩⟩
    rcases g2 with ⟨_, q, _⟩ | ⟨_, _, _, q, _⟩
    · exact q
    · cases q
  | map hb ho =>
    simp only [ho] at hf
    obtain ⟨ms, clk, q1, q2, q3⟩ := hI.ob _ _ _ hb ho
    obtain ⟨a, g1, g2⟩ := find_ok (P := P) hkk hk q2 q3 hf
    refine fin ms ?_ ⟨a, g1, ?_⟩
    · unfold Instr.lookup
      rw [Sem.run_bind, run_underlying ht]
      simp only [Result.andThen_ok]
      rw [Sem.run_bind]
      have hget : ∀ b : Nat, w.heap[b]? = some (.map ms clk) → (getObj b).run P w = .ok (.map ms clk) w := fun b q => by simp [getObj, Sem.run, q]
      rw [hget _ q1]
      simp only [Result.andThen_ok]
      rw [Sem.run_bind]
      rfl
    rcases g2 with ⟨e1, e2, _⟩ | ⟨j, d, m, e1, _, _, e4, e5, _⟩
    · exact .inl ⟨e1, e2⟩
    · exact .inr ⟨d, _, _, e1, e5, e4⟩
  | bool | int | str | nilp | ref | elem | nils | list | row | nilf | func | nili | ifc | agg | tup | undef => simp at hf

theorem good_mset (hI : Inv β w h) {t kt et : TypeId} {ag : Bool} {ks : List Nat} {k v : DV} {mv kv vv : Value} {o ct ce : Nat} {es es' : List (DV × DV)} (ht : P.underlying t = some (.map kt et)) (hkk : keyKind P kt = some (ag, ks))
    (hm : RV β w h (.map o) mv) (hk : RV β w h k kv) (hv : RV β w h v vv) (hkq : (keq ag ks k k).isSome = true) (ho : h[o]? = some (.map ct ce es)) (hp : mput ag ks k v es = some es') :
    ∃ w', (Instr.mapUpdate t mv kv vv).run P w = .ok () w' ∧ Ext β w h β w' (h.set o (.map ct ce es')) ∧ Inv β w' (h.set o (.map ct ce es')) := by
  cases hm with
  | map hb ho' =>
    rename_i b _ _ _
    obtain ⟨ms, clk, q1, q2, q3⟩ := hI.ob _ _ _ hb ho
    have hfind : ∃ r, mfind ag ks k es = some r := by
      clear q2 q3 ho
      induction es generalizing es' with
      | nil => exact ⟨none, rfl⟩
      | cons p es ih =>
        obtain ⟨a, u⟩ := p
        simp only [mput] at hp
        simp only [mfind]
        split at hp
        · exact ⟨_, rfl⟩
        · rw [Option.map_eq_some_iff] at hp
          obtain ⟨r', hr', _⟩ := hp
          exact ih hr'
        · cases hp
    obtain ⟨r, hr⟩ := hfind
    obtain ⟨a, g1, g2⟩ := find_ok (P := P) hkk hk q2 q3 hr
    have hlt := (hI.lt o b hb).2
    have main : ∀ (ms' : Array MapEntry) (clk' : Nat), RVs β w h (es'.map (·.1)) (ms'.toList.map (·.key)) → RVs β w h (es'.map (·.2)) (ms'.toList.map (·.val)) →
        (Instr.mapUpdate t (.map (some b)) kv vv).run P w = .ok () { w with heap := w.heap.setIfInBounds b (.map ms' clk') } →
        ∃ w', (Instr.mapUpdate t (.map (some b)) kv vv).run P w = .ok () w' ∧ Ext β w h β w' (h.set o (.map ct ce es')) ∧ Inv β w' (h.set o (.map ct ce es')) := by
      intro ms' clk' r1 r2 hrun
      have hO : OnlyAt w { w with heap := w.heap.setIfInBounds b (.map ms' clk') } b := ⟨rfl, rfl, rfl, by simp, fun j hj => by simp [Array.getElem?_setIfInBounds, Ne.symm hj]⟩
      have hat : ({ w with heap := w.heap.setIfInBounds b (.map ms' clk') } : World).heap[b]? = some (.map ms' clk') := by simp [hlt]
      have he : Ext β w h β { w with heap := w.heap.setIfInBounds b (.map ms' clk') } (h.set o (.map ct ce es')) := Ext.write hI hb ho hO ⟨hb, es', List.getElem?_set_self (hI.lt o b hb).1⟩ (by simp)
      exact ⟨_, hrun, he, Inv.write hI hb hO he ⟨ms', clk', hat, RVs.ext he r1, RVs.ext he r2⟩⟩
    have hck := run_checkKey' (P := P) false 9998 hkk hk hkq
    have hstay : (Instr.keyThatStays kv kv).run P w = .ok kv w := by
      unfold Instr.keyThatStays
      rw [if_pos (bits_key 9999 hk hkq)]
      rfl
    have hpre : ∀ (s : Sem Unit), (Instr.mapUpdate t (.map (some b)) kv vv).run P w = ((Instr.findKey kt kv ms.toList).run P w).andThen (fun a w => (match a with
        | some (i, _) => do
          let key ← Instr.keyThatStays (((ms[i]?).map (·.key)).getD kv) kv
          setObj b (.map (ms.modify i fun e => { e with key, val := vv }) clk)
        | none => setObj b (.map (ms.push { key := kv, val := vv, born := clk }) (clk + 1)) : Sem Unit).run P w) := by
      intro s
      unfold Instr.mapUpdate
      rw [Sem.run_bind, run_underlying ht]
      simp only [Result.andThen_ok]
      rw [Sem.run_bind]
      have : (getObj b).run P w = .ok (.map ms clk) w := by simp [getObj, Sem.run, q1]
      rw [this]
      simp only [Result.andThen_ok]
      rw [Sem.run_bind, hck]
      simp only [Result.andThen_ok]
      rw [Sem.run_bind]
      rfl
    rcases g2 with ⟨e1, e2, e3⟩ | ⟨j, d, m, e1, e2, e3, e4, e5, e6⟩
    · subst e1; subst e2
      rw [e3 v] at hp
      injection hp with hp; subst hp
      refine main (ms.push { key := kv, val := vv, born := clk }) (clk + 1) ?_ ?_ ?_
      · simpa using q2.append (.cons hk .nil)
      · simpa using q3.append (.cons hv .nil)
      · rw [hpre (pure ()), g1]
        simp only [Result.andThen_ok]
        exact Go.MapKept.run_setObj_map _ q1
    · subst e1; subst e5
      rw [e6 v] at hp
      injection hp with hp; subst hp
      have hj : j < ms.size := by have := (List.getElem?_eq_some_iff.1 e2).1; simpa using this
      have hje : j < es.length := by have := q2.len; simp at this; omega
      have hmj : ms[j]? = some m := by rw [← Array.getElem?_toList]; exact e2
      have hmod : (ms.modify (0 + j) fun e => { e with key := kv, val := vv }).toList = ms.toList.set j { m with key := kv, val := vv } := by
        rw [Nat.zero_add]
        apply List.ext_getElem?
        intro i
        rw [Array.getElem?_toList, Array.getElem?_modify, List.getElem?_set]
        by_cases hij : j = i
        · subst hij
          rw [if_pos rfl, hmj]
          simp [hj]
        · rw [if_neg hij, if_neg hij, Array.getElem?_toList]
      refine main (ms.modify (0 + j) fun e => { e with key := kv, val := vv }) clk ?_ ?_ ?_
      · rw [hmod, List.map_set, List.map_set]; exact RVs.set j q2 hk
      · rw [hmod, List.map_set, List.map_set]; exact RVs.set j q3 hv
      · rw [hpre (pure ()), g1]
        simp only [Result.andThen_ok]
        have : (((ms[0 + j]?).map (·.key)).getD kv) = kv := by rw [Nat.zero_add, hmj]; simp [e3]
        rw [Sem.run_bind, this, hstay]
        simp only [Result.andThen_ok]
        exact Go.MapKept.run_setObj_map _ q1
end
end Go.Proofs.YtfgnefnpfgdliaaDoor
