/- Conversions, structs built, slices cut, indexed, measured. -/
import Derived.Test.YtfgnefnpfgdliaaDoorEngG
import Derived.Laws.BytesString
import Derived.Laws.BytesArg
namespace Go.Proofs.YtfgnefnpfgdliaaDoor
open Go.RowKit
set_option linter.unusedVariables false
set_option linter.unusedSimpArgs false

section
variable {P : Program} {β β' : Bm} {w w' : World} {h h' : Heap}

theorem good_un {op : UnOp} {x d : DV} {v : Value} (hx : RV β w h x v) (hd : unx op x = some d) : ∃ r, (Op.unary op v).run P w = .ok r w ∧ RV β w h d r := by
  unfold unx at hd
  split at hd <;> first | cases hd | skip
  all_goals cases hx
  all_goals (refine ⟨_, ?_, by constructor⟩)
  · simp [Op.unary, Op.intArith]
  · simp [Op.unary, Op.intBits]
  · simp [Op.unary]
theorem good_toint {src dst : TypeId} {j k : IntKind} {q : IntKind} {n : Int} (hs : P.underlying src = some (.int j)) (ht : P.underlying dst = some (.int k)) :
    (convert src dst (.int q n)).run P w = .ok (.int k (k.wrap n)) w := by
  simp [convert, run_underlying hs, run_underlying ht, Conv.intToInt]
theorem bytes_ints {xs : List DV} {vs : List Value} (hr : RVs β w h (flat xs) vs) (hw : ∀ x ∈ xs, Wc 1 x) : ∀ {bs}, xs.mapM byteOf = some bs → ∃ ns : List Int, vs = ns.map (fun n => Value.int .u8 n) ∧ bs = ns.map (fun n => UInt8.ofNat n.toNat) := by
  induction xs generalizing vs with
  | nil =>
    intro bs hb
    simp at hb; subst hb
    simp [flat] at hr
    cases hr
    exact ⟨[], rfl, rfl⟩
  | cons x l ih =>
    intro bs hb
    rw [List.mapM_cons] at hb
    cases hx : byteOf x with
    | none => rw [hx] at hb; simp at hb
    | some b =>
      rw [hx] at hb
      cases hl : l.mapM byteOf with
      | none => rw [hl] at hb; simp at hb
      | some bs' =>
        rw [hl] at hb
        simp at hb; subst hb
        have hxn : ∃ n, x = .int .u8 n ∧ b = UInt8.ofNat n.toNat := by
          unfold byteOf at hx
          split at hx
          · injection hx with hx; exact ⟨_, rfl, hx.symm⟩
          · cases hx
        obtain ⟨n, rfl, rfl⟩ := hxn
        simp only [flat, List.flatMap_cons, DV.cells, List.singleton_append] at hr
        cases hr with
        | cons hd hs =>
          cases hd
          obtain ⟨ns, rfl, rfl⟩ := ih hs (fun y hy => hw y (by simp [hy])) hl
          exact ⟨n :: ns, rfl, rfl⟩
theorem good_tostr (hI : Inv β w h) {src dst e : TypeId} {x : DV} {v : Value} {xs : List DV} {bs : List UInt8} (hs : P.underlying src = some (.slice e)) (he : P.underlying e = some (.int .u8)) (ht : P.underlying dst = some .string)
    (hx : RV β w h x v) (hv : vw h 1 x = some xs) (hb : xs.mapM byteOf = some bs) : (convert src dst v).run P w = .ok (.string ⟨bs.toArray⟩) w := by
  obtain ⟨A, n, cap, rfl⟩ := vw_slice hx hv
  obtain ⟨hn, hw, hc⟩ := vw_cells hI hx hv
  rcases A with _ | a
  · rcases hc with rfl | ⟨a, vs, ha, _⟩
    · simp at hb; subst hb
      simp [convert, run_underlying hs, run_underlying he, run_underlying ht, Conv.bytesToString]
      rfl
    · cases ha
  · have hvs : ∃ vs, RVs β w h (flat xs) vs ∧ ∀ j v, vs[j]? = some v → w.cell? (a.add j) = some v := by
      rcases hc with rfl | ⟨a', vs, ha, h1, h2⟩
      · exact ⟨[], .nil, by simp⟩
      · injection ha with ha; subst ha; exact ⟨vs, h1, h2⟩
    obtain ⟨vs, h1, h2⟩ := hvs
    obtain ⟨ns, rfl, rfl⟩ := bytes_ints h1 hw hb
    have hl : ns.length = n := by
      have := h1.len
      rw [flat_length (sz := 1) (fun x hx => (hw x hx).1)] at this
      simp at this; omega
    have h3 := run_loadCells_list (P := P) w a _ h2
    rw [List.length_map, hl] at h3
    have h4 := run_bytesToString (P := P) w a n cap ns h3
    rw [run_convert_bytes_string w src dst e _ _ _ hs he ht, h4]
    congr 2
    rw [foldl_push_bytes]
    simp [ByteArray.empty, ByteArray.emptyWithCapacity]
    rfl

/-! ### Structs -/
theorem foldset (off : Nat) : ∀ (vs : List Value) (k : Nat) (cells : Array Value), off + k + vs.length ≤ cells.size →
    ((vs.zipIdx k).foldl (fun (cs : Array Value) (p : Value × Nat) => cs.setIfInBounds (off + p.2) p.1) cells).toList = cells.toList.take (off + k) ++ vs ++ cells.toList.drop (off + k + vs.length)
  | [], k, cells, _ => by simp
  | v :: vs, k, cells, hl => by
    simp only [List.zipIdx_cons, List.foldl_cons]
    rw [foldset off vs (k + 1) _ (by simp at hl ⊢; omega)]
    have hk : off + k < cells.toList.length := by simp at hl ⊢; omega
    have h1 : (cells.setIfInBounds (off + k) v).toList = cells.toList.take (off + k) ++ v :: cells.toList.drop (off + k + 1) := by
      rw [Array.toList_setIfInBounds, List.set_eq_take_append_cons_drop, if_pos hk]
    have hlen : (cells.toList.take (off + k)).length = off + k := by rw [List.length_take]; omega
    rw [h1]
    rw [show off + (k + 1) = (cells.toList.take (off + k)).length + 1 by rw [hlen]; omega, List.take_length_add_append]
    rw [show (cells.toList.take (off + k)).length + 1 + vs.length = (cells.toList.take (off + k)).length + (1 + vs.length) by omega, List.drop_length_add_append]
    simp only [List.take_succ_cons, List.take_zero, List.append_assoc, List.singleton_append, List.cons_append, List.nil_append, List.length_cons]
    rw [show 1 + vs.length = vs.length + 1 by omega, List.drop_succ_cons, List.drop_drop]
    simp [Nat.add_assoc, Nat.add_comm, Nat.add_left_comm]
theorem zipIdx_toList (a : Array Value) : a.zipIdx.toList = a.toList.zipIdx := by simp
theorem run_places : ∀ (fs : List Field) {pl : List (Nat × Nat)}, placesOf P fs = some pl → (fs.mapM (fun f => (do pure (f.offset, ← sizeOf f.type) : Sem (Nat × Nat)))).run P w = .ok pl w
  | [], pl, hp => by simp [placesOf] at hp; subst hp; simp
  | f :: fs, pl, hp => by
    unfold placesOf at hp
    split at hp
    · rename_i sz r h1 h2
      injection hp with hp; subst hp
      have ih := run_places fs h2
      simp only [List.mapM_cons, Sem.run_bind, run_sizeOf h1, Result.andThen_ok, Sem.run_pure, ih]
    · cases hp
theorem good_fill {e : Env} {a : Act} (hE : ER β w h e a) {pl : List (Nat × Nat)} : ∀ (ps : List (Nat × Operand)) {l : List (Nat × Nat × Od)} {cs ds : List DV} {vs : Array Value}, fillPlaces pl ps = some l → RVs β w h cs vs.toList →
    fillp cs (l.map fun p => (p.1, p.2.1, p.2.2.v e)) = some ds → ∃ us, Instr.fill (fun i => pl[i]?) vs (ps.map fun (i, x) => (i, a.eval x)) = some us ∧ RVs β w h ds us.toList
  | [], l, cs, ds, vs, hl, hr, hf => by
    simp [fillPlaces] at hl; subst hl
    simp [fillp] at hf; subst hf
    exact ⟨vs, rfl, hr⟩
  | (i, x) :: ps, l, cs, ds, vs, hl, hr, hf => by
    unfold fillPlaces at hl
    split at hl
    · rename_i q hq
      split at hl
      · rename_i o r ho hrest
        injection hl with hl; subst hl
        simp only [List.map_cons, fillp] at hf
        split at hf
        · rename_i hc
          have hx := cvO_ok hE ho
          have hu := hc.1
          have hxc := hx.cells hu
          have hsz : (a.eval x).cells.size = q.2 := by have := hxc.len; simp at this; rw [← this]; exact hc.2.1
          have hvl := hr.len
          have hfit : q.1 + (a.eval x).cells.size ≤ vs.size := by rw [hsz]; simp at hvl; omega
          have hset : (((a.eval x).cells.zipIdx).foldl (fun (cs : Array Value) (p : Value × Nat) => cs.setIfInBounds (q.1 + p.2) p.1) vs).toList = vs.toList.take q.1 ++ (a.eval x).cells.toList ++ vs.toList.drop (q.1 + (a.eval x).cells.toList.length) := by
            rw [← Array.foldl_toList, zipIdx_toList]
            have := foldset q.1 (a.eval x).cells.toList 0 vs (by simpa using hfit)
            simpa using this
          have hr2 : RVs β w h (splice cs q.1 (o.v e).cells) (((a.eval x).cells.zipIdx).foldl (fun (cs : Array Value) (p : Value × Nat) => cs.setIfInBounds (q.1 + p.2) p.1) vs).toList := by
            rw [hset]; exact hr.splice hxc q.1
          obtain ⟨us, h1, h2⟩ := good_fill hE ps hrest hr2 hf
          refine ⟨us, ?_, h2⟩
          simp only [List.map_cons, Instr.fill, hq]
          have hng : ¬ ((a.eval x).cells.size ≠ q.2 || decide (q.1 + (a.eval x).cells.size > vs.size)) = true := by simp [hsz]; omega
          rw [if_neg hng]
          exact h1
        · cases hf
      · cases hl
    · cases hl
end
end Go.Proofs.YtfgnefnpfgdliaaDoor
