/- Nil checks, places of fields and elements, indices, slices of slices and strings, functions and interface values made, parts of tuples, lengths, least and greatest. -/
import Derived.Test.YtfgnefnpfgdliaaDoorEngI
namespace Go.Proofs.YtfgnefnpfgdliaaDoor
open Go.RowKit
set_option linter.unusedVariables false
set_option linter.unusedSimpArgs false

section
variable {P : Program} {β β' : Bm} {w w' : World} {h h' : Heap}

theorem good_faddr (hI : Inv β w h) {s : TypeId} {f off sz : Nat} {fs : Array Field} {fl : Field} {x d : DV} {v : Value} (hs : P.underlying s = some (.struct fs)) (hf : fs[f]? = some fl) (hz : tySize P fl.type = some sz) (h0 : sz ≠ 0) (ho : fl.offset = off)
    (hx : RV β w h x v) (hd : (match x with | .ref o p => some (DV.ref o (p + off)) | .elem d s i p => some (DV.elem d s i (p + off)) | _ => none) = some d) :
    ∃ r, (Instr.fieldAt s v f).run P w = .ok r w ∧ RV β w h d r := by
  have hrun : ∀ a : Addr, (Instr.fieldAt s (.pointer (some a)) f).run P w = .ok (.pointer (some (a.add off))) w := by
    intro a
    simp [Instr.fieldAt, run_underlying hs, hf, Instr.sureAddr, fieldPlace, run_sizeOf hz, h0, ho]
  cases hx with
  | ref hb hoo =>
    simp only at hd; injection hd with hd; subst hd
    exact ⟨_, hrun _, by rw [add_p]; exact .ref hb hoo⟩
  | elem h1 hi =>
    simp only at hd; injection hd with hd; subst hd
    exact ⟨_, hrun _, by rw [add_add', Nat.add_assoc]; exact .elem h1 hi⟩
  | bool | int | str | nilp | nils | list | row | nilm | map | nilf | func | nili | ifc | agg | tup | undef => simp at hd

theorem good_fld (hI : Inv β w h) {s : TypeId} {f off sz : Nat} {ag : Bool} {fs : Array Field} {fl : Field} {cs : List DV} {d : DV} {v : Value} (hs : P.underlying s = some (.struct fs)) (hf : fs[f]? = some fl)
    (hz : tySize P fl.type = some sz) (hg : tyAgg P fl.type = some ag) (ho : fl.offset = off) (hx : RV β w h (.agg cs) v) (hd : rdc ag sz cs off = some d) :
    ∃ r, (Instr.field s v f).run P w = .ok r w ∧ RV β w h d r := by
  cases hx with
  | agg hr =>
    rename_i vs
    have h1 : (Instr.field s (.agg vs.toArray) f).run P w = (part fl.type vs.toArray off).run P w := by
      simp [Instr.field, run_underlying hs, hf, asAgg, ho]
    rw [h1]
    unfold part
    rw [Sem.run_bind, run_isAgg hg]
    unfold rdc at hd
    cases ag with
    | true =>
      simp only [if_true] at hd
      split at hd
      · rename_i hl
        injection hd with hd; subst hd
        refine ⟨_, by simp [run_sizeOf hz]; rfl, ?_⟩
        exact .agg ((hr.drop off).take sz)
      · cases hd
    | false =>
      simp only [Bool.false_eq_true, if_false] at hd
      obtain ⟨u, hu, hru⟩ := hr.get hd
      exact ⟨u, by simp [hu], hru⟩

theorem good_iaddr (hI : Inv β w h) {t e : TypeId} {sz : Nat} {x : DV} {v : Value} {xs : List DV} {k : IntKind} {n : Int} (ht : P.underlying t = some (.slice e)) (hz : tySize P e = some sz)
    (hx : RV β w h x v) (hv : vw h sz x = some xs) (h1 : 0 ≤ n) (h2 : n < xs.length) :
    ∃ r, (Instr.indexAt t v (.int k n)).run P w = .ok r w ∧ RV β w h (.elem x sz n.toNat 0) r := by
  obtain ⟨A, m, cap, rfl⟩ := vw_slice hx hv
  obtain ⟨rfl, hw, hc⟩ := vw_cells hI hx hv
  rcases hc with rfl | ⟨a, vs, rfl, hr, hc⟩
  · simp at h2; omega
  · have he : P.elem t = e := by simp [Program.elem, ht]
    refine ⟨.pointer (some (a.add (n.toNat * sz))), ?_, ?_⟩
    · rw [run_indexAt_slice w t a _ cap k n (by rw [he]; exact ht), if_pos ⟨h1, h2⟩, he, run_sizeOf hz]
      rfl
    · exact .elem (p := 0) hx (by omega)

theorem good_iaddra (hI : Inv β w h) {t e : TypeId} {len sz : Nat} {x d : DV} {v : Value} {k : IntKind} {n : Int} (ht : P.underlying t = some (.array len e)) (hz : tySize P e = some sz)
    (hx : RV β w h x v) (h1 : 0 ≤ n ∧ n < len) (hd : (match x with | .ref o p => some (DV.ref o (p + n.toNat * sz)) | .elem d s i p => some (DV.elem d s i (p + n.toNat * sz)) | _ => none) = some d) :
    ∃ r, (Instr.indexAt t v (.int k n)).run P w = .ok r w ∧ RV β w h d r := by
  have he : P.elem t = e := by simp [Program.elem, ht]
  have hl : P.arrayLen t = len := by simp [Program.arrayLen, ht]
  have hrun : ∀ a : Addr, (Instr.indexAt t (.pointer (some a)) (.int k n)).run P w = .ok (.pointer (some (a.add (n.toNat * sz)))) w := by
    intro a
    rw [run_indexAt_array w t a k n (by rw [he, hl]; exact ht), hl, if_pos h1, he, run_sizeOf hz]
    rfl
  cases hx with
  | ref hb hoo =>
    simp only at hd; injection hd with hd; subst hd
    exact ⟨_, hrun _, by rw [add_p]; exact .ref hb hoo⟩
  | elem h1 hi =>
    simp only at hd; injection hd with hd; subst hd
    exact ⟨_, hrun _, by rw [add_add', Nat.add_assoc]; exact .elem h1 hi⟩
  | bool | int | str | nilp | nils | list | row | nilm | map | nilf | func | nili | ifc | agg | tup | undef => simp at hd

theorem good_idxs {t : TypeId} {s : ByteArray} {b : UInt8} {k : IntKind} {n : Int} (ht : P.underlying t = some .string) (h1 : 0 ≤ n) (hb : s.data.toList[n.toNat]? = some b) :
    (Instr.index t (.string s) (.int k n)).run P w = .ok (.int .u8 b.toNat) w := by
  have h2 : s[n.toNat]? = some b := by
    have hl := (List.getElem?_eq_some_iff.1 hb)
    obtain ⟨hlt, he⟩ := hl
    have hlt' : n.toNat < s.size := by simpa using hlt
    rw [getElem?_pos s n.toNat hlt']
    rw [← he]
    rfl
  simp [Instr.index, run_underlying ht, asIntOf, h1, h2]

theorem run_bound {x : Value} {k : IntKind} {n : Int} {y : Nat} {code : BoundsCode} (hx : x = .int k n) (h0 : 0 ≤ n) (h1 : n.toNat ≤ y) : (Instr.sliceBound x y code).run P w = .ok n.toNat w := by
  subst hx
  have : n ≤ y := by omega
  simp [Instr.sliceBound, asIntOf, h0, this]

theorem od_int {e : Env} {a : Act} (hE : ER β w h e a) {x : Operand} {o : Od} (hx : cvO x = some o) {m : Nat} {d : Nat} (hi : intAt e d (some o) = some m) : ∃ k n, a.eval x = .int k n ∧ 0 ≤ n ∧ n.toNat = m := by
  have h1 := cvO_ok hE hx
  simp only [intAt] at hi
  split at hi
  · rename_i k n hv
    rw [hv] at h1
    split at hi
    · rename_i h0
      injection hi with hi
      generalize hu : a.eval x = u at h1
      cases h1
      exact ⟨_, _, rfl, h0, hi⟩
    · cases hi
  · cases hi

/-- The bounds of a slice that stays within its length, or is cut off there. -/
theorem run_bounds {e : Env} {a : Act} (hE : ER β w h e a) (isS : Bool) {len cap : Nat} (hlc : len ≤ cap) {lo hi mx : Option Operand} {l' h' m' : Option Od} (h1 : cvOpt lo = some l') (h2 : cvOpt hi = some h') (h3 : cvOpt mx = some m') {l m : Nat}
    (hl : intAt e 0 l' = some l) (hh : intAt e len h' = some m) (hlm : l ≤ m) (hml : m ≤ len) (hmx : ∀ o, m' = some o → intAt e 0 (some o) = some m ∧ h' ≠ none) :
    (Instr.sliceBounds isS len cap (lo.map a.eval) (hi.map a.eval) (mx.map a.eval)).run P w = .ok (l, m, if mx.isSome then m else cap) w := by
  have hlo : ∀ x, lo = some x → ∃ k n, a.eval x = .int k n ∧ 0 ≤ n ∧ n.toNat = l := by
    rintro x rfl
    unfold cvOpt at h1
    simp only at h1
    split at h1
    · rename_i o ho; injection h1 with h1; subst h1; exact od_int hE ho hl
    · cases h1
  have hlo' : lo = none → l = 0 := by
    rintro rfl
    simp [cvOpt] at h1; subst h1
    simp [intAt] at hl; exact hl.symm
  have hhi : ∀ x, hi = some x → ∃ k n, a.eval x = .int k n ∧ 0 ≤ n ∧ n.toNat = m := by
    rintro x rfl
    unfold cvOpt at h2
    simp only at h2
    split at h2
    · rename_i o ho; injection h2 with h2; subst h2; exact od_int hE ho hh
    · cases h2
  have hhi' : hi = none → m = len ∧ h' = none := by
    rintro rfl
    simp [cvOpt] at h2; subst h2
    simp [intAt] at hh; exact ⟨hh.symm, rfl⟩
  have hmx' : ∀ x, mx = some x → (∃ k n, a.eval x = .int k n ∧ 0 ≤ n ∧ n.toNat = m) ∧ h' ≠ none := by
    rintro x rfl
    unfold cvOpt at h3
    simp only at h3
    split at h3
    · rename_i o ho; injection h3 with h3; subst h3; exact ⟨od_int hE ho (hmx _ rfl).1, (hmx _ rfl).2⟩
    · cases h3
  unfold Instr.sliceBounds
  cases mx with
  | none =>
    cases hi with
    | none =>
      obtain ⟨rfl, _⟩ := hhi' rfl
      cases lo with
      | none => obtain rfl := hlo' rfl; simp
      | some x =>
        obtain ⟨k, n, e1, e2, e3⟩ := hlo x rfl
        simp [run_bound e1 e2 (by omega : n.toNat ≤ m), e3]
    | some y =>
      obtain ⟨k2, n2, f1, f2, f3⟩ := hhi y rfl
      cases lo with
      | none => obtain rfl := hlo' rfl; cases isS <;> simp [run_bound f1 f2 (by omega : n2.toNat ≤ cap), f3]
      | some x =>
        obtain ⟨k, n, e1, e2, e3⟩ := hlo x rfl
        cases isS <;> simp [run_bound f1 f2 (by omega : n2.toNat ≤ cap), f3, run_bound e1 e2 (by omega : n.toNat ≤ m), e3]
  | some z =>
    obtain ⟨⟨k3, n3, g1, g2, g3⟩, hne⟩ := hmx' z rfl
    cases hi with
    | none => exact absurd (hhi' rfl).2 hne
    | some y =>
      obtain ⟨k2, n2, f1, f2, f3⟩ := hhi y rfl
      cases lo with
      | none => obtain rfl := hlo' rfl; cases isS <;> simp [run_bound g1 g2 (by omega : n3.toNat ≤ cap), g3, run_bound f1 f2 (by omega : n2.toNat ≤ m), f3]
      | some x =>
        obtain ⟨k, n, e1, e2, e3⟩ := hlo x rfl
        cases isS <;> simp [run_bound g1 g2 (by omega : n3.toNat ≤ cap), g3, run_bound f1 f2 (by omega : n2.toNat ≤ m), f3, run_bound e1 e2 (by omega : n.toNat ≤ m), e3]

theorem good_mm {mx : Bool} {k : IntKind} : ∀ {ds : List DV} {vs : List Value} {a r : Int}, RVs β w h ds vs → mm mx k a ds = some r →
    (vs.foldlM (if mx then Builtin.max2 else Builtin.min2) (.int k a)).run P w = .ok (.int k r) w
  | [], _, a, r, hr, hm => by
    cases hr
    simp [mm] at hm; subst hm
    simp
  | d :: ds, _, a, r, hr, hm => by
    cases hr with
    | cons hd hs =>
      rename_i v vs
      cases d <;> simp only [mm] at hm <;> try cases hm
      rename_i k' b
      split at hm
      · rename_i hk
        subst hk
        cases hd
        have ih := good_mm hs hm
        rw [List.foldlM_cons, Sem.run_bind]
        cases mx with
        | true => simpa [Builtin.max2] using ih
        | false => simpa [Builtin.min2] using ih
      · cases hm

theorem cellsAt_drop {a : Addr} {vs : List Value} (hc : CellsAt β w h a vs) (p q : Nat) : CellsAt β w h (a.add p) ((vs.drop p).take q) := by
  intro j v hj
  rw [List.getElem?_take] at hj
  split at hj
  · rw [List.getElem?_drop] at hj
    obtain ⟨h1, h2⟩ := hc (p + j) v hj
    exact ⟨by rw [add_block]; exact h1, by rw [add_add']; exact h2⟩
  · cases hj
/-- A slice, cut within its length. -/
theorem good_slc (hI : Inv β w h) {t e : TypeId} {sz : Nat} {x d : DV} {A : Option Addr} {n cap : Nat} {xs : List DV} {l m : Nat} {cc full : Bool} {lo hi mx : Option Value} (ht : P.underlying t = some (.slice e)) (hz : tySize P e = some sz)
    (hx : RV β w h x (.slice A n cap)) (hv : vw h sz x = some xs) (hlm : l ≤ m) (hml : m ≤ xs.length) (hcc : cc = full)
    (hb : ∀ c, xs.length ≤ c → (Instr.sliceBounds true xs.length c lo hi mx).run P w = .ok (l, m, if full then m else c) w)
    (hd : slcx h x l m xs.length cc = some (d, h')) :
    h' = h ∧ ∃ r, (Instr.sliceAt t (.slice A n cap) lo hi mx).run P w = .ok r w ∧ RV β w h d r := by
  subst hcc
  unfold slcx at hd
  have hrun : ∀ (A : Option Addr) (c : Nat), xs.length ≤ c → (Instr.sliceAt t (.slice A xs.length c) lo hi mx).run P w =
      .ok (.slice (if (if cc = true then m else c) = l then A else A.map (·.add (l * sz))) (m - l) ((if cc = true then m else c) - l)) w := by
    intro A c hc
    unfold Instr.sliceAt
    rw [Sem.run_bind, run_underlying ht]
    simp only [Result.andThen_ok]
    unfold Instr.slice
    rw [Sem.run_bind, run_underlying ht]
    simp only [Result.andThen_ok, Sem.run_bind, hb c hc, run_sizeOf hz, Sem.run_pure]
  cases hx with
  | nils =>
    simp only [Option.some.injEq, Prod.mk.injEq] at hd
    obtain ⟨rfl, rfl⟩ := hd
    simp [vw] at hv; subst hv
    simp at hml; subst hml
    obtain rfl : l = 0 := by omega
    refine ⟨rfl, _, hrun none 0 (by simp), ?_⟩
    cases cc <;> simp <;> exact .nils
  | list hn hc hcap hnr hw hr ha =>
    rename_i s ys c vs a
    simp only [Option.some.injEq, Prod.mk.injEq] at hd
    obtain ⟨rfl, rfl⟩ := hd
    simp only [vw] at hv
    split at hv
    · rename_i hs
      injection hv with hv; subst hv; subst hs
      subst hn
      refine ⟨rfl, _, hrun (some a) cap hc, ?_⟩
      have hy : ∀ x ∈ (ys.take m).drop l, x ∈ ys := fun x hx => List.mem_of_mem_take (List.mem_of_mem_drop hx)
      have hfl : flat ((ys.take m).drop l) = ((flat ys).drop (l * s)).take ((m - l) * s) := by
        have hq : ∀ x ∈ ys, x.cells.length = s := fun x hx => (hw x hx).1
        rw [flat_drop l (fun x hx => hq x (List.mem_of_mem_take hx)), flat_take m hq, List.drop_take, Nat.mul_sub_right_distrib]
      have ha' : ∀ a', (m - l = 0 ∨ a' = a.add (l * s)) → CellsAt β w h a' ((vs.drop (l * s)).take ((m - l) * s)) := by
        intro a' h1
        rcases h1 with h1 | rfl
        · rw [h1, Nat.zero_mul]; intro j v hj; simp at hj
        · exact cellsAt_drop ha _ _
      have hgen : ∀ (a' : Addr) (c' : Nat), m - l ≤ c' → ((cc || (c && decide (m = ys.length))) = true → c' = m - l) → (m - l = 0 ∨ a' = a.add (l * s)) →
          RV β w h (.list s ((ys.take m).drop l) (cc || (c && decide (m = ys.length)))) (.slice (some a') (m - l) c') := by
        intro a' c' q1 q2 q3
        exact .list (by simp; omega) q1 q2 (fun x hx => hnr x (hy x hx)) (fun x hx => hw x (hy x hx)) (by rw [hfl]; exact (hr.drop _).take _) (ha' _ q3)
      cases cc
      · simp only [Bool.false_eq_true, if_false]
        split
        · rename_i hq
          exact hgen a _ (by omega) (fun h1 => by simp at h1; have := hcap h1.1; omega) (.inl (by omega))
        · exact hgen _ _ (by omega) (fun h1 => by simp at h1; have := hcap h1.1; omega) (.inr rfl)
      · simp only [if_true]
        split
        · rename_i hq
          exact hgen a _ (by omega) (fun _ => rfl) (.inl (by omega))
        · exact hgen _ _ (by omega) (fun _ => rfl) (.inr rfl)
    · cases hv
  | row hb' hc hcap ho hg hs =>
    rename_i o g lo' c a b e' s g' zs
    simp only at hd
    split at hd
    · cases hd
    rename_i hrefuse
    simp only [Option.some.injEq, Prod.mk.injEq] at hd
    obtain ⟨rfl, rfl⟩ := hd
    have hvv : g = g' ∧ lo' + n ≤ zs.length ∧ s = sz ∧ xs = (zs.drop lo').take n := by
      simp only [vw] at hv
      rcases ho with ho | ho <;> rw [ho] at hv <;> simp only at hv <;> split at hv
      · rename_i hq; injection hv with hv; exact ⟨hq.2.1.symm, hq.2.2, hq.1, hv.symm⟩
      · cases hv
      · rename_i hq; injection hv with hv; exact ⟨hq.2.1.symm, hq.2.2, hq.1, hv.symm⟩
      · cases hv
    obtain ⟨rfl, hl, rfl, hxs⟩ := hvv
    have hnx : xs.length = n := by rw [hxs, List.length_take, List.length_drop]; omega
    obtain ⟨k1, k2, k3⟩ := hs rfl
    rw [hnx] at hrun hml ⊢
    refine ⟨rfl, _, hrun (some a) cap hc, ?_⟩
    have hgen : ∀ (a' : Addr) (c' : Nat), m - l ≤ c' → ((cc || (c && decide (m = n))) = true → c' = m - l) → (0 < m - l → a' = ⟨b, (lo' + l) * s, none⟩) → (lo' + l = 0 → a' = ⟨b, 0, none⟩) → (cc = false → c' = cap - l) →
        RV β w h (.row o g (lo' + l) (m - l) (cc || (c && decide (m = n)))) (.slice (some a') (m - l) c') := by
      intro a' c' q1 q2 q3 q4 q5
      refine .row hb' q1 q2 ho hg (fun _ => ⟨by omega, q3, fun hz0 => ⟨q4 hz0, fun hcf hrw => ?_⟩⟩)
      have hcc0 : cc = false := by cases cc <;> simp_all
      obtain rfl : lo' = 0 := by omega
      obtain rfl : l = 0 := by omega
      have hc0 : c = false := by
        rw [hcc0] at hcf hrefuse
        cases c
        · rfl
        · exfalso
          refine hrefuse ⟨rfl, rfl, ?_⟩
          rw [hnx]
          simpa using hcf
      obtain ⟨cur, e1, e2⟩ := (k3 rfl).2 hc0 hrw
      refine ⟨cur, e1, ?_⟩
      rw [e2, q5 hcc0, Nat.sub_zero]
    have hpos : 0 < m - l → a = ⟨b, lo' * s, none⟩ := fun h0 => k2 (by omega)
    cases cc
    · simp only [Bool.false_eq_true, if_false]
      split
      · rename_i hq
        exact hgen a _ (by omega) (fun h1 => by simp at h1; have := hcap h1.1; omega) (fun h0 => by omega) (fun h0 => (k3 (by omega)).1) (fun _ => rfl)
      · exact hgen _ _ (by omega) (fun h1 => by simp at h1; have := hcap h1.1; omega) (fun h0 => by show a.add (l * s) = _; rw [hpos h0, add_p, Nat.add_mul]) (fun h0 => by show a.add (l * s) = _; rw [(k3 (by omega)).1, show l = 0 by omega]; simp [Addr.add]) (fun _ => rfl)
    · simp only [if_true]
      split
      · rename_i hq
        exact hgen a _ (by omega) (fun _ => rfl) (fun h0 => by omega) (fun h0 => (k3 (by omega)).1) (fun h0 => by cases h0)
      · exact hgen _ _ (by omega) (fun _ => rfl) (fun h0 => by show a.add (l * s) = _; rw [hpos h0, add_p, Nat.add_mul]) (fun h0 => by show a.add (l * s) = _; rw [(k3 (by omega)).1, show l = 0 by omega]; simp [Addr.add]) (fun h0 => by cases h0)
  | undef => simp [vw] at hv
end
end Go.Proofs.YtfgnefnpfgdliaaDoor
