/- Ideal runs. -/
import Derived.Test.YteekbciaggmfgaaDoorEngL
import GoSem.ClaimChange
import GoSem.ClaimJoined
import Derived.SizedLaws
namespace Go.Proofs.YteekbciaggmfgaaDoor
open Go.RowKit
set_option linter.unusedVariables false
set_option linter.unusedSimpArgs false
inductive Ty where
 | bool
 | int (k : IntKind)
 | str
 | st (fs : List Ty)
 | sl (sz E5 : Nat) (e : Ty)
def Ty.one : Ty → Bool
 | .st _ => false
 | _ => true
def Ty.flat : Ty → List Ty
 | .st us => us
 | ty => [ty]
mutual
def tyOf (P : Program) : Nat → TypeId → Option Ty
 | 0, _ => none
 | n + 1, t => match P.underlying t with
  | some .bool => some .bool
  | some (.int k) => some (.int k)
  | some .string => some .str
  | some (.slice e) => match tyOf P n e with
   | some ty => if 0 < P.cellsOf e then some (.sl (P.cellsOf e) (P.bytesOf e) ty) else none
   | none => none
  | some (.struct fs) => match mF P n fs.toList 0 with
   | some ts => if P.cellsOf t = ts.length then some (.st ts) else none
   | none => none
  | _ => none
def mF (P : Program) : Nat → List Field → Nat → Option (List Ty)
 | _, [], _ => some []
 | 0, _ :: _, _ => none
 | n + 1, f :: fs, k => match tyOf P n f.type with
  | some ty => match mF P n fs (k + ty.flat.length) with
   | some ts => if f.offset = k ∧ P.cellsOf f.type = ty.flat.length then some (ty.flat ++ ts) else none
   | none => none
  | none => none
end
mutual
def HasTy : Ty → DV → Prop
 | .bool, d => ∃ b, d = .bool b
 | .int k, d => ∃ n, d = .int k n ∧ (Lit.int k n).wf = true
 | .str, d => ∃ s, d = .str s ∧ s.size ≤ reachBytes
 | .st ts, d => ∃ cs, d = .agg cs ∧ aP ts cs
 | .sl sz E5 e, d => d = .nils ∨ ∃ xs, d = .list sz xs false ∧ xs.length * E5 ≤ reachBytes ∧ xs.length ≤ maxLen ∧ ∀ x ∈ xs, HasTy e x ∧ Wc sz x
def aP : List Ty → List DV → Prop
 | [], ds => ds = []
 | t :: ts, ds => ∃ d l, ds = d :: l ∧ HasTy t d ∧ aP ts l
end
def B0 : Bm := fun _ => none
theorem HM (w : World) (ht : kK B0 w []) : Inv B0 w [] where
 tab := ht
 lt o b h := by cases h
 inj o o' b h := by cases h
 ob o b x h := by cases h
 tot o h := by simp at h
theorem qP {α : Type} {f : Nat → Option α} : ∀ {n : Nat} {ys : List α}, (List.range n).mapM f = some ys → ys.length = n ∧ ∀ i, i < n → ∃ y, f i = some y ∧ ys[i]? = some y := by
 intro n ys h
 have key : ∀ (l : List Nat) {ys : List α}, l.mapM f = some ys → ys.length = l.length ∧ ∀ (k i : Nat), l[k]? = some i → ∃ y, f i = some y ∧ ys[k]? = some y := by
  intro l
  induction l with
  | nil => intro ys h; simp at h; subst h; exact ⟨rfl, fun k i hk => by simp at hk⟩
  | cons a l ih =>
   intro ys h
   rw [List.mapM_cons] at h
   cases ha : f a with
   | none => rw [ha] at h; simp at h
   | some y =>
    rw [ha] at h
    cases hl : l.mapM f with
    | none => rw [hl] at h; simp at h
    | some r =>
     rw [hl] at h
     simp at h; subst h
     obtain ⟨q1, q2⟩ := ih hl
     refine ⟨by simp [q1], fun k i hk => ?_⟩
     cases k with
     | zero => simp at hk; subst hk; exact ⟨y, ha, rfl⟩
     | succ k => exact q2 k i (by simpa using hk)
 obtain ⟨q1, q2⟩ := key _ h
 refine ⟨by simpa using q1, fun i hi => q2 i i (by simp [hi])⟩
section
variable {H : Type} {enc : TypeId × Value → H} {P : Program} {w : World} {base : Nat} {spare : Nat → Bool} {held : Bool}
theorem fR {ty : Ty} {d : DV} (h : HasTy ty d) (ho : ty.one = true) : d.cells = [d] ∧ d.one = true := by
 cases ty with
 | bool => unfold HasTy at h; obtain ⟨b, rfl⟩ := h; exact ⟨rfl, rfl⟩
 | int k => unfold HasTy at h; obtain ⟨n, rfl, _⟩ := h; exact ⟨rfl, rfl⟩
 | str => unfold HasTy at h; obtain ⟨n, rfl, _⟩ := h; exact ⟨rfl, rfl⟩
 | st ts => cases ho
 | sl sz E5 e =>
  unfold HasTy at h
  rcases h with rfl | ⟨xs, rfl, _⟩ <;> exact ⟨rfl, rfl⟩
def Told (w : World) (ty : Ty) (cs : List Value) : Prop := ∃ d, HasTy ty d ∧ Nr d ∧ Wc cs.length d ∧ RVs B0 w [] d.cells cs
theorem j6 {ty : Ty} {d : DV} {v : Value} (h : HasTy ty d) (ho : ty.one = true) (hn : Nr d) (hr : RV B0 w [] d v) : Told w ty [v] := by
 obtain ⟨q1, q2⟩ := fR h ho
 exact ⟨d, h, hn, ⟨by rw [q1]; rfl, fun c hc => by rw [q1] at hc; simp at hc; subst hc; exact q2⟩, by rw [q1]; exact .cons hr .nil⟩
theorem lu {e : TypeId} : ∀ {l : List (DataW H)} {d : DataW H}, d ∈ l → ∀ m ∈ d.weights P e, m ∈ DataW.weightsAll P e l
 | [], _, hd, _, _ => by cases hd
 | a :: l, d, hd, m, hm => by
  unfold DataW.weightsAll
  rcases List.mem_cons.1 hd with rfl | hd
  ·exact List.mem_append_left _ hm
  ·exact List.mem_append_right _ (lu hd m hm)
theorem yc {fuel n : Nat} {t e : TypeId} {te : Ty} {a : Addr} {len cap : Nat} {x : DataW H × List MemPlace} (ih : ∀ (n : Nat) (t : TypeId) (ty : Ty) (cs : List Value) (x : DataW H × List MemPlace), tyOf P n t = some ty → DataW.trod enc P w base spare held fuel t cs = some x → (∀ m ∈ x.1.weights P t, m ≤ reachBytes) → Told w ty cs)
 (hte : tyOf P n e = some te) (h0 : 0 < P.cellsOf e) (h : (if base ≤ a.block ∧ len ≤ cap ∧ cap ≤ maxLen then
  ((List.range len).mapM fun i => (w.cells? base (a.add (i * P.cellsOf e)) (P.cellsOf e)).bind (DataW.trod enc P w base spare held fuel e)).bind fun elems =>
   (if spare a.block = true then (List.range (cap - len)).mapM fun j => (w.cells? base (a.add ((len + j) * P.cellsOf e)) (P.cellsOf e)).bind (DataW.trod enc P w base spare held fuel e) else some []).map fun rest =>
    (DataW.slice (elems.map (·.1)) (rest.map (·.1)), MemPlace.row a ((elems.length + rest.length) * P.cellsOf e) ++ (elems ++ rest).flatMap (·.2))
  else none) = some x) (hu : P.underlying t = some (.slice e)) (hwt : ∀ m ∈ x.1.weights P t, m ≤ reachBytes) : Told w (.sl (P.cellsOf e) (P.bytesOf e) te) [.slice (some a) len cap] := by
 split at h
 case isFalse => cases h
 rename_i hq
 rw [Option.bind_eq_some_iff] at h
 obtain ⟨elems, hel, pu⟩ := h
 rw [Option.map_eq_some_iff] at pu
 obtain ⟨rest, _, rfl⟩ := pu
 simp only [DataW.weights, hu] at hwt
 obtain ⟨q1, q2⟩ := qP hel
 have hbytes : len * P.bytesOf e ≤ reachBytes := by
  have := hwt _ (List.mem_cons_self ..)
  rw [List.length_map, List.length_map, q1, Nat.add_mul] at this
  omega
 have hex : ∀ i, i < len → ∃ d : DV, HasTy te d ∧ Nr d ∧ Wc (P.cellsOf e) d ∧ ∀ (j : Nat) c, d.cells[j]? = some c → ∃ v, w.cell? (a.add (i * P.cellsOf e + j)) = some v ∧ RV B0 w [] c v := by
  intro i hi
  obtain ⟨y, hy, NU⟩ := q2 i hi
  rw [Option.bind_eq_some_iff] at hy
  obtain ⟨cs, hcs, htr⟩ := hy
  have NT : y.1 ∈ elems.map (·.1) := List.mem_map.2 ⟨y, List.mem_of_getElem? NU, rfl⟩
  obtain ⟨d, g1, g2, g3, g4⟩ := ih n e te cs y hte htr (fun m hm => hwt m (List.mem_cons_of_mem _ (List.mem_append_left _ (lu NT m hm))))
  unfold World.cells? at hcs
  split at hcs
  case isFalse => cases hcs
  obtain ⟨p1, p2⟩ := qP hcs
  rw [p1] at g3
  refine ⟨d, g1, g2, g3, fun j c hj => ?_⟩
  obtain ⟨v, hv, iV⟩ := g4.get hj
  have rj : j < P.cellsOf e := by have := (List.getElem?_eq_some_iff.1 hj).1; rw [g3.1] at this; exact this
  obtain ⟨u, hu, vm⟩ := p2 j rj
  rw [hv] at vm
  injection vm with vm; subst vm
  rw [add_add'] at hu
  exact ⟨v, hu, iV⟩
 let g : Nat → DV := fun i => if hi : i < len then Classical.choose (hex i hi) else .undef
 have hg : ∀ i, i < len → HasTy te (g i) ∧ Nr (g i) ∧ Wc (P.cellsOf e) (g i) ∧ ∀ (j : Nat) c, (g i).cells[j]? = some c → ∃ v, w.cell? (a.add (i * P.cellsOf e + j)) = some v ∧ RV B0 w [] c v := by
  intro i hi
  have := Classical.choose_spec (hex i hi)
  simp only [g, dif_pos hi]
  exact this
 have hmem : ∀ x ∈ (List.range len).map g, ∃ i, i < len ∧ x = g i := by
  intro x hx
  obtain ⟨i, hi, rfl⟩ := List.mem_map.1 hx
  exact ⟨i, List.mem_range.1 hi, rfl⟩
 have H6 : ∀ x ∈ (List.range len).map g, Wc (P.cellsOf e) x := by
  intro x hx
  obtain ⟨i, hi, rfl⟩ := hmem x hx
  exact (hg i hi).2.2.1
 have hnr : ∀ x ∈ (List.range len).map g, Nr x := by
  intro x hx
  obtain ⟨i, hi, rfl⟩ := hmem x hx
  exact (hg i hi).2.1
 have hfl : (flat ((List.range len).map g)).length = len * P.cellsOf e := by
  rw [bY (fun x hx => (H6 x hx).1)]; simp
 have hcell : ∀ (k : Nat) c, (flat ((List.range len).map g))[k]? = some c → ∃ v, w.cell? (a.add k) = some v ∧ RV B0 w [] c v := by
  intro k c hk
  have AQ : k < len * P.cellsOf e := by have := (List.getElem?_eq_some_iff.1 hk).1; omega
  have hi : k / P.cellsOf e < len := (Nat.div_lt_iff_lt_mul h0).2 AQ
  have hm : k % P.cellsOf e < P.cellsOf e := Nat.mod_lt _ h0
  have hke : k / P.cellsOf e * P.cellsOf e + k % P.cellsOf e = k := by rw [Nat.mul_comm]; exact Nat.div_add_mod _ _
  have hfg := flat_get (sz := P.cellsOf e) (xs := (List.range len).map g) (k / P.cellsOf e) (k % P.cellsOf e) (x := g (k / P.cellsOf e)) (fun x hx => (H6 x hx).1) (by simp [hi]) hm
  rw [hke, hk] at hfg
  obtain ⟨v, hv, iV⟩ := (hg _ hi).2.2.2 (k % P.cellsOf e) c hfg.symm
  rw [hke] at hv
  exact ⟨v, hv, iV⟩
 have hty : HasTy (.sl (P.cellsOf e) (P.bytesOf e) te) (.list (P.cellsOf e) ((List.range len).map g) false) := by
  unfold HasTy
  refine .inr ⟨_, rfl, by simpa using hbytes, by simp; omega, fun x hx => ?_⟩
  obtain ⟨i, hi, rfl⟩ := hmem x hx
  exact ⟨(hg i hi).1, (hg i hi).2.2.1⟩
 refine j6 hty rfl (.list hnr) ?_
 refine .list (vs := (List.range (len * P.cellsOf e)).map fun j => (w.cell? (a.add j)).getD undef) (by simp) hq.2.1 (fun h => by cases h) hnr H6 ?_ ?_
 ·refine RVs.of_get (by rw [hfl]; simp) (fun k c v hk hv => ?_)
  obtain ⟨u, hu, jM⟩ := hcell k c hk
  have AQ : k < len * P.cellsOf e := by have := (List.getElem?_eq_some_iff.1 hk).1; omega
  simp [AQ, hu] at hv
  subst hv
  exact jM
 ·intro j v hj
  have rj : j < len * P.cellsOf e := by have := (List.getElem?_eq_some_iff.1 hj).1; simpa using this
  obtain ⟨c, hc⟩ : ∃ c, (flat ((List.range len).map g))[j]? = some c := ⟨_, List.getElem?_eq_getElem (by rw [hfl]; exact rj)⟩
  obtain ⟨u, hu, _⟩ := hcell j c hc
  simp [rj, hu] at hj
  subst hj
  exact ⟨fun o ho => (by cases ho), hu⟩
theorem aP.append : ∀ {us : List Ty} {a : List DV} {ts : List Ty} {b : List DV}, aP us a → aP ts b → aP (us ++ ts) (a ++ b)
 | [], a, ts, b, h1, h2 => by unfold aP at h1; subst h1; exact h2
 | u :: us, a, ts, b, h1, h2 => by
  unfold aP at h1
  obtain ⟨d, l, rfl, hd, hl⟩ := h1
  rw [List.cons_append, List.cons_append]
  unfold aP
  exact ⟨d, _, rfl, hd, aP.append hl h2⟩
theorem zL {ty : Ty} {cs : List Value} (h : Told w ty cs) : ∃ ds, aP ty.flat ds ∧ (∀ d ∈ ds, Nr d ∧ d.one = true) ∧ RVs B0 w [] ds cs := by
 obtain ⟨d, e1, e2, e3, e4⟩ := h
 cases ty with
 | st us =>
  unfold HasTy at e1
  obtain ⟨BF, rfl, hu⟩ := e1
  refine ⟨BF, hu, fun d hd => ⟨?_, e3.2 d hd⟩, e4⟩
  cases e2 with
  | agg h => exact h d hd
 | bool =>
  obtain ⟨c1, c2⟩ := fR e1 rfl
  rw [c1] at e4
  exact ⟨[d], by simp only [Ty.flat]; unfold aP; exact ⟨d, [], rfl, e1, by unfold aP; rfl⟩, fun z hz => by rw [List.mem_singleton.1 hz]; exact ⟨e2, c2⟩, e4⟩
 | int k =>
  obtain ⟨c1, c2⟩ := fR e1 rfl
  rw [c1] at e4
  exact ⟨[d], by simp only [Ty.flat]; unfold aP; exact ⟨d, [], rfl, e1, by unfold aP; rfl⟩, fun z hz => by rw [List.mem_singleton.1 hz]; exact ⟨e2, c2⟩, e4⟩
 | str =>
  obtain ⟨c1, c2⟩ := fR e1 rfl
  rw [c1] at e4
  exact ⟨[d], by simp only [Ty.flat]; unfold aP; exact ⟨d, [], rfl, e1, by unfold aP; rfl⟩, fun z hz => by rw [List.mem_singleton.1 hz]; exact ⟨e2, c2⟩, e4⟩
 | sl sz E5 e =>
  obtain ⟨c1, c2⟩ := fR e1 rfl
  rw [c1] at e4
  exact ⟨[d], by simp only [Ty.flat]; unfold aP; exact ⟨d, [], rfl, e1, by unfold aP; rfl⟩, fun z hz => by rw [List.mem_singleton.1 hz]; exact ⟨e2, c2⟩, e4⟩
theorem wF {fuel n : Nat} {t : TypeId} {fa : Array Field} {fs : List Field} {ts : List Ty} {cs : List Value} {F : List (DataW H × List MemPlace) → List MemPlace} {x : DataW H × List MemPlace} (ih : ∀ (n : Nat) (t : TypeId) (ty : Ty) (cs : List Value) (x : DataW H × List MemPlace), tyOf P n t = some ty → DataW.trod enc P w base spare held fuel t cs = some x → (∀ m ∈ x.1.weights P t, m ≤ reachBytes) → Told w ty cs)
 (hts : mF P n fs 0 = some ts) (hl : cs.length = ts.length) (h : (fs.mapM fun f => DataW.trod enc P w base spare held fuel f.type ((cs.drop f.offset).take (P.cellsOf f.type))).map (fun xs => (DataW.agg (xs.map (·.1)), F xs)) = some x) (hu : P.underlying t = some (.struct fa)) (hfa : fa.toList = fs) (hwt : ∀ m ∈ x.1.weights P t, m ≤ reachBytes) : Told w (.st ts) cs := by
 rw [Option.map_eq_some_iff] at h
 obtain ⟨xs, hxs, rfl⟩ := h
 simp only [DataW.weights, hu, hfa] at hwt
 have key : ∀ (fs : List Field) (n k : Nat) (ts : List Ty) (xs : List (DataW H × List MemPlace)), mF P n fs k = some ts → (fs.mapM fun f => DataW.trod enc P w base spare held fuel f.type ((cs.drop f.offset).take (P.cellsOf f.type))) = some xs → k + ts.length ≤ cs.length → (∀ m ∈ DataW.weightsEach P (fs.map (·.type)) (xs.map (·.1)), m ≤ reachBytes) →
  ∃ ds, aP ts ds ∧ (∀ d ∈ ds, Nr d ∧ d.one = true) ∧ RVs B0 w [] ds ((cs.drop k).take ts.length) := by
  intro fs
  induction fs with
  | nil =>
   intro n k ts xs h1 h2 h3 h4
   cases n <;> (simp [mF] at h1; subst h1; exact ⟨[], by unfold aP; rfl, by simp, by simpa using RVs.nil⟩)
  | cons f fs Au =>
   intro n k ts xs h1 h2 h3 h4
   cases n with
   | zero => simp [mF] at h1
   | succ n =>
    simp only [mF] at h1
    split at h1
    case h_2 => cases h1
    rename_i ty hty
    split at h1
    case h_2 => cases h1
    rename_i ts' MJ
    split at h1
    case isFalse => cases h1
    rename_i hq
    obtain ⟨ho, hc1⟩ := hq
    injection h1 with h1; subst h1
    rw [List.mapM_cons] at h2
    cases hf : DataW.trod enc P w base spare held fuel f.type ((cs.drop f.offset).take (P.cellsOf f.type)) with
    | none => rw [hf] at h2; simp at h2
    | some y =>
     cases hr : fs.mapM fun f => DataW.trod enc P w base spare held fuel f.type ((cs.drop f.offset).take (P.cellsOf f.type)) with
     | none => rw [hf, hr] at h2; simp at h2
     | some ys =>
      rw [List.length_append] at h3
      have hxy : xs = y :: ys := by rw [hf, hr] at h2; simpa using h2.symm
      subst hxy
      simp only [List.map_cons, DataW.weightsEach] at h4
      obtain ⟨ds, g1, g2, g3⟩ := Au n (k + ty.flat.length) ts' ys MJ hr (by omega) (fun m hm => h4 m (List.mem_append_right _ hm))
      obtain ⟨es, e1, e2, e3⟩ := zL (ih _ f.type ty _ y hty hf (fun m hm => h4 m (List.mem_append_left _ hm)))
      rw [ho, hc1] at e3
      refine ⟨es ++ ds, aP.append e1 g1, fun z hz => ?_, ?_⟩
      ·rcases List.mem_append.1 hz with hz | hz
       ·exact e2 z hz
       ·exact g2 z hz
      ·rw [List.length_append, List.take_add, List.drop_drop]
       exact e3.append g3
 obtain ⟨ds, g1, g2, g3⟩ := key fs n 0 ts xs hts hxs (by omega) hwt
 rw [List.drop_zero, ← hl, List.take_length] at g3
 refine ⟨.agg ds, by unfold HasTy; exact ⟨ds, rfl, g1⟩, .agg (fun d hd => (g2 d hd).1), ⟨g3.len, fun c hc => (g2 c hc).2⟩, g3⟩
theorem zK : ∀ (fuel n : Nat) (t : TypeId) (ty : Ty) (cs : List Value) (x : DataW H × List MemPlace), tyOf P n t = some ty → DataW.trod enc P w base spare held fuel t cs = some x → (∀ m ∈ x.1.weights P t, m ≤ reachBytes) → Told w ty cs := by
 intro fuel
 induction fuel with
 | zero => intro n t ty cs x _ h _; simp [DataW.trod] at h
 | succ fuel ih =>
  intro n t ty cs x hty h hwt
  cases n with
  | zero => simp [tyOf] at hty
  | succ n =>
  simp only [tyOf] at hty
  split at hty
  ·rename_i hu
   injection hty with hty; subst hty
   unfold DataW.trod at h
   rw [hu] at h
   simp only at h
   split at h <;> first | cases h | skip
   all_goals (rename_i heq; first | (cases heq; done) | skip)
   all_goals exact j6 (by unfold HasTy; exact ⟨_, rfl⟩) rfl (.bool _) (.bool _)
  ·rename_i k hu
   injection hty with hty; subst hty
   unfold DataW.trod at h
   rw [hu] at h
   simp only at h
   split at h <;> first | cases h | skip
   all_goals (rename_i heq; first | (cases heq; done) | skip)
   all_goals
    injection heq with heq; injection heq with heq; subst heq
    split at h
    ·rename_i hq
     obtain ⟨rfl, hwf⟩ := hq
     exact j6 (by unfold HasTy; exact ⟨_, rfl, hwf⟩) rfl (.int _ _) (.int _ _)
    ·cases h
  ·rename_i hu
   injection hty with hty; subst hty
   unfold DataW.trod at h
   rw [hu] at h
   simp only at h
   split at h <;> first | cases h | skip
   all_goals (rename_i heq; first | (cases heq; done) | skip)
   all_goals
    split at h
    ·rename_i hq
     injection h with h; subst h
     have := hwt _ (List.mem_singleton.2 rfl)
     exact j6 (by unfold HasTy; exact ⟨_, rfl, by simpa using this⟩) rfl (.str _) (.str _)
    ·cases h
  ·rename_i e hu
   split at hty
   case h_2 => cases hty
   rename_i te hte
   split at hty
   case isFalse => cases hty
   rename_i h0
   injection hty with hty; subst hty
   unfold DataW.trod at h
   rw [hu] at h
   simp only at h
   split at h <;> first | cases h | skip
   all_goals (rename_i heq; first | (cases heq; done) | skip)
   ·exact j6 (by unfold HasTy; exact .inl rfl) rfl .nils .nils
   ·injection heq with heq; injection heq with heq; subst heq
    exact yc ih hte h0 h hu hwt
  ·rename_i fs hu
   split at hty
   case h_2 => cases hty
   rename_i ts hts
   split at hty
   case isFalse => cases hty
   rename_i hsz
   injection hty with hty; subst hty
   unfold DataW.trod at h
   rw [hu] at h
   simp only at h
   split at h
   ·rename_i hl
    exact wF ih hts (by rw [hl, hsz]) h hu rfl hwt
   ·cases h
  ·cases hty
end
theorem wG {w : World} {d : DV} {v : Value} (hr : RVs B0 w [] d.cells v.cells.toList) (h : (∃ cs, d = .agg cs) → ∃ us, v = .agg us) (h1 : d.one = true ∨ ∃ cs, d = .agg cs) (hv : (∃ us, v = .agg us) → ∃ cs, d = .agg cs) : RV B0 w [] d v := by
 rcases h1 with h1 | ⟨cs, rfl⟩
 ·have hd : d.cells = [d] := by cases d <;> first | rfl | cases h1
  have NY : ∀ us, v ≠ .agg us := fun us hq => by
   obtain ⟨cs, rfl⟩ := hv ⟨us, hq⟩
   cases h1
  have hc : v.cells.toList = [v] := by cases v <;> first | rfl | exact absurd rfl (NY _)
  rw [hd, hc] at hr
  cases hr with
  | cons h1 _ => exact h1
 ·obtain ⟨us, rfl⟩ := h ⟨cs, rfl⟩
  have := RV.agg hr
  simpa [DV.cells, Value.cells] using this
section
variable {H : Type} {enc : TypeId × Value → H} {P : Program} {w : World}
theorem yR {ty : Ty} {d : DV} (h : HasTy ty d) : (ty.one = true → d.one = true) ∧ (ty.one = false → ∃ cs, d = .agg cs) := by
 cases ty with
 | st ts => unfold HasTy at h; obtain ⟨cs, rfl, _⟩ := h; exact ⟨fun h => (by cases h), fun _ => ⟨cs, rfl⟩⟩
 | _ => exact ⟨fun ho => (fR h ho).2, fun ho => (by cases ho)⟩
theorem zJ {n : Nat} {t : TypeId} {ty : Ty} (h : tyOf P n t = some ty) : (ty.one = false ↔ ∃ fs, P.underlying t = some (.struct fs)) ∧ (∀ m e, P.underlying t ≠ some (.array m e)) := by
 cases n with
 | zero => simp [tyOf] at h
 | succ n =>
  simp only [tyOf] at h
  split at h
  ·rename_i hu; injection h with h; subst h; rw [hu]; simp [Ty.one]
  ·rename_i hu; injection h with h; subst h; rw [hu]; simp [Ty.one]
  ·rename_i hu; injection h with h; subst h; rw [hu]; simp [Ty.one]
  ·rename_i hu
   split at h
   ·split at h
    ·injection h with h; subst h; rw [hu]; simp [Ty.one]
    ·cases h
   ·cases h
  ·rename_i hu
   split at h
   ·split at h
    ·injection h with h; subst h; rw [hu]; simp [Ty.one]
    ·cases h
   ·cases h
  ·cases h
theorem Ct {n : Nat} {t : TypeId} {ty : Ty} (h : tyOf P n t = some ty) (ho : ty.one = true) : P.underlying t = some .bool ∨ (∃ k, P.underlying t = some (.int k)) ∨ P.underlying t = some .string ∨ ∃ e, P.underlying t = some (.slice e) := by
 cases n with
 | zero => simp [tyOf] at h
 | succ n =>
  simp only [tyOf] at h
  split at h
  ·rename_i hu; exact .inl hu
  ·rename_i hu; exact .inr (.inl ⟨_, hu⟩)
  ·rename_i hu; exact .inr (.inr (.inl hu))
  ·rename_i hu; exact .inr (.inr (.inr ⟨_, hu⟩))
  ·split at h
   ·split at h
    ·injection h with h; subst h; cases ho
    ·cases h
   ·cases h
  ·cases h
theorem arg_in {base : Nat} {n : Nat} {t : TypeId} {ty : Ty} {v : Value} {D : DataW H} {ps : List MemPlace} (hty : tyOf P n t = some ty) (hval : Value.okWide P w .any base t v) (h : DataW.Trod enc P w 0 (fun _ => true) true t v D ps) (hw : ∀ m ∈ D.weights P t, m ≤ reachBytes) :
 ∃ d, HasTy ty d ∧ Nr d ∧ RV B0 w [] d v := by
 obtain ⟨fuel, hf⟩ := h
 obtain ⟨d, g1, g2, g3, g4⟩ := zK fuel n t ty v.cells.toList (D, ps) hty hf hw
 obtain ⟨k1, k2⟩ := zJ hty
 obtain ⟨q1, q2⟩ := yR g1
 refine ⟨d, g1, g2, wG g4 (fun ⟨cs, hd⟩ => ?_) ?_ (fun ⟨us, hv⟩ => ?_)⟩
 ·have : ty.one = false := by
   cases ho : ty.one with
   | false => rfl
   | true => have := q1 ho; subst hd; cases this
  obtain ⟨fs, hu⟩ := k1.1 this
  unfold Value.okWide at hval
  rw [hu] at hval
  obtain ⟨cs, hcs, _⟩ := hval
  exact ⟨cs, hcs⟩
 ·cases ho : ty.one with
  | false => exact .inr (q2 ho)
  | true => exact .inl (q1 ho)
 ·cases ho : ty.one with
  | false => exact q2 ho
  | true =>
   exfalso
   subst hv
   have hns : ∀ fs, P.underlying t ≠ some (.struct fs) := fun fs hu => by
    have := k1.2 ⟨fs, hu⟩
    rw [ho] at this; cases this
   have h1 := fR g1 ho
   unfold Value.okWide at hval
   rcases Ct hty ho with hu | ⟨k, hu⟩ | hu | ⟨e, hu⟩ <;> simp [hu, Cell.okWide, Cell.ok] at hval
theorem v8 {β' : Bm} {w w' : World} {h' : Zb} (he : aj B0 w [] β' w' h') : RowKit.Below w.heap.size w w' :=
 ⟨he.os, he.tape, he.output, he.size, fun k hk => he.keep k hk (fun o ho => by cases ho)⟩
theorem law_calls {X : Nat → Option XK} {hh : Nat → Hints} (hS : Sound P X hh) (hT : kK B0 w []) {f : Nat} {ds : List DV} {vs : List Value} {h' : Zb} (hE : E X f ds [] = some (.bool true, h')) (hR : RVs B0 w [] ds vs) :
 Calls P f vs.toArray w (fun e w' => e = .returned (.bool true) ∧ RowKit.Below w.heap.size w w') := by
 refine (J0 hS f ds [] _ h' B0 w vs hE (HM w hT) hR).2.mono ?_
 rintro e w' ⟨v, β', rfl, q1, q2, q3⟩
 have : af (.bool true) h' = (.bool true, h') := rfl
 rw [this] at q1 q2 q3
 cases q3
 exact ⟨rfl, v8 q1⟩
end
end Go.Proofs.YteekbciaggmfgaaDoor
