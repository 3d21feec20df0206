/- Ideal runs: column.Build: its rows' numbers. Ideal runs: column.Build. Ideal runs: column.Build. Ideal runs: the document's column. Ideal runs: the document's column. Ideal runs: the document's column. Ideal runs: are two columns the same? few values. -/
import Derived.Test.YtojhkbbnkhfnhaaGreatDoorPackP
import Derived.Test.YtojhkbbnkhfnhaaGreatDoorPlainQ
namespace Go.Proofs.YtojhkbbnkhfnhaaGreatDoor
attribute [local go_sem] Ya ZT ZV ZW ZO ZF ZM ZI ZK ZB ZC ZJ ZP ZQ ZX ZN ZG ZU Zp Zm Yg ZS Yq put lk Od.v Za ZE ZA YB Ym Yn Yo unx YE DV.isU DV.cells hget Yb Yj Yd ZL splice Ye mat Yi YD one_bool one_int one_str one_nilp one_ref one_elem one_nils one_list one_row one_nilm one_map one_nilf one_func one_nili one_ifc one_agg one_tup one_undef one_fresh
attribute [local go_sem ↓] ZH
set_option linter.unusedVariables false
set_option linter.unusedSimpArgs false
set_option maxRecDepth 10000
theorem row_wr {h : ZD} {r g t n : Nat} {xs : List Nat} (h1 : h[r]? = some (.row t 1 g (xs.map iD))) (hn : xs.length = n) {i : Nat} (hi : i < n) (x : Nat) : stx h 1 (.elem (.row r g 0 n false) 1 i 0) (.int .i64 x) = some (h.set r (.row t 1 g ((xs.set i x).map iD))) := by
  subst hn
  have h2 : (xs.map iD)[i]? = some (iD xs[i]) := by simp [List.getElem?_eq_getElem hi]
  rw [stx, if_pos (by simp [DV.cells, DV.one])]
  simp only [h1]
  rw [if_pos (by simp [hi])]
  simp only [Nat.zero_add, h2]
  simp [eput, DV.one]
theorem row_vw {h : ZD} {r g t n : Nat} {xs : List Nat} (h1 : h[r]? = some (.row t 1 g (xs.map iD))) (hn : xs.length = n) : vw h 1 (.row r g 0 n false) = some (xs.map iD) := by
  subst hn; simp [vw, h1, List.take_of_length_le]
/-- What column.Build has behind H: its result, the dictionary's map and box, the numbers, the dictionary's values. -/
structure BSt (H h : ZD) (n : Nat) (L : DV) (vs : List V) (ids : List Nat) : Prop where
  len : H.length + 4 ≤ h.length
  old : ∀ i, i < H.length → h[i]? = H[i]?
  res : h[H.length]? = some (.box 61 [.int .i64 0, .nils, .nils])
  dict : DictAt h (H.length + 2) (H.length + 1) L 4096 vs
  idr : h[H.length + 3]? = some (.row 3 1 0 (ids.map iD))
  idl : ids.length = n
  row : ∀ r, rowOf L = some r → H.length + 4 ≤ r
section
variable {H h : ZD} {n : Nat} {L : DV} {vs : List V} {ids : List Nat}
theorem BSt.app (hB : BSt H h n L vs ids) (G : ZD) : BSt H (h ++ G) n L vs ids := by
  have hl := hB.len
  refine ⟨by simp; omega, fun i hi => ?_, ?_, hB.dict.app G, ?_, hB.idl, hB.row⟩
  · rw [List.getElem?_append_left (by omega)]; exact hB.old i hi
  · rw [List.getElem?_append_left (by omega)]; exact hB.res
  · rw [List.getElem?_append_left (by omega)]; exact hB.idr
theorem BSt.put (hB : BSt H h n L vs ids) (i x : Nat) : BSt H (h.set (H.length + 3) (.row 3 1 0 ((ids.set i x).map iD))) n L vs (ids.set i x) := by
  have hl := hB.len
  refine ⟨by simpa using hB.len, fun i hi => ?_, ?_, ?_, ?_, by simpa using hB.idl, hB.row⟩
  · rw [List.getElem?_set_ne (by omega)]; exact hB.old i hi
  · rw [List.getElem?_set_ne (by omega)]; exact hB.res
  · refine hB.dict.keep ?_ ?_ fun r hr => ?_
    · rw [List.getElem?_set_ne (by omega)]
    · rw [List.getElem?_set_ne (by omega)]
    · have := hB.row r hr
      rw [List.getElem?_set_ne (by omega)]
  · rw [List.getElem?_set_self (by omega)]
end
theorem wN_mono : ∀ (a b : Nat), a ≤ b → wN a ≤ wN b := by
  intro a
  induction a using Nat.strongRecOn with
  | _ a ih =>
    intro b h
    rcases Nat.eq_zero_or_pos a with rfl | hp
    · rw [wN_zero]; omega
    · rw [wN_half a hp, wN_half b (by omega)]
      have := ih (a / 2) (by omega) (b / 2) (by omega)
      omega
theorem take_eq {H h : ZD} (hl : H.length ≤ h.length) (ho : ∀ i, i < H.length → h[i]? = H[i]?) : h.take H.length = H := by
  apply List.ext_getElem?
  intro i
  by_cases c : i < H.length
  · rw [List.getElem?_take_of_lt c]; exact ho i c
  · rw [List.getElem?_eq_none (by rw [List.length_take]; omega), List.getElem?_eq_none (by omega)]
/-- A list of values that is told. -/
def ValL (S : DV) (ys : List V) : Prop := S = .list 4 (ys.map V.d) false ∨ (S = .nils ∧ ys = [])
theorem ValL.vw {S : DV} {ys : List V} (h : ValL S ys) (g : ZD) : vw g 4 S = some (ys.map V.d) := by
  rcases h with rfl | ⟨rfl, rfl⟩ <;> rfl
theorem ValL.one {S : DV} {ys : List V} (h : ValL S ys) : S.one = true := by
  rcases h with rfl | ⟨rfl, rfl⟩ <;> rfl
abbrev colD (n : Int) (D B : DV) : DV := .agg [.int .i64 n, D, B]
theorem ValL.sh {S : DV} {ys : List V} (h : ValL S ys) : S = .nils ∨ ∃ s l c, S = .list s l c := by
  rcases h with rfl | ⟨rfl, rfl⟩
  · exact .inr ⟨_, _, _, rfl⟩
  · exact .inl rfl
/-- A list of values that grows, behind H. -/
def GrowV (H h : ZD) (d : DV) (vs : List V) : Prop :=
  h.take H.length = H ∧ ((d = .nils ∧ vs = []) ∨ ∃ g o, d = .row o g 0 vs.length false ∧ H.length ≤ o ∧ h[o]? = some (.row 51 4 g (vs.map V.d)))
section
variable {H h : ZD} {d : DV} {vs : List V}
theorem GrowV.zero : GrowV H H .nils [] := ⟨List.take_length, .inl ⟨rfl, rfl⟩⟩
theorem GrowV.ext (hg : GrowV H h d vs) (G : ZD) : GrowV H (h ++ G) d vs := by
  obtain ⟨ht, hr⟩ := hg
  refine ⟨?_, ?_⟩
  · rw [List.take_append_of_le_length (take_le ht)]; exact ht
  · rcases hr with hr | ⟨g, o, h1, h2, h3⟩
    · exact .inl hr
    · exact .inr ⟨g, o, h1, h2, by rw [List.getElem?_append_left (List.getElem?_eq_some_iff.1 h3).1]; exact h3⟩
theorem GrowV.vw (hg : GrowV H h d vs) (G : ZD) : vw (h ++ G) 4 d = some (vs.map V.d) := by
  rcases (hg.ext G).2 with ⟨rfl, rfl⟩ | ⟨g, o, rfl, h2, h3⟩
  · rfl
  · simp [Go.Proofs.YtojhkbbnkhfnhaaGreatDoor.vw, h3, List.take_of_length_le]
theorem GrowV.vw0 (hg : GrowV H h d vs) : Go.Proofs.YtojhkbbnkhfnhaaGreatDoor.vw h 4 d = some (vs.map V.d) := by
  have := hg.vw []; rwa [List.append_nil] at this
theorem GrowV.app (hg : GrowV H h d vs) (v : V) (hb : vs.length ≤ 1000000) : ∃ d' h', appx h 51 4 40 d (vs.map V.d) [v.d] = some (d', h') ∧ GrowV H h' d' (vs ++ [v]) := by
  have hle : ((vs.map V.d).length + [v.d].length) * 40 ≤ 140737488355328 := by simp; omega
  have hne : [v.d] ≠ [] := by simp
  obtain ⟨ht, hr⟩ := hg
  rcases hr with ⟨rfl, rfl⟩ | ⟨g, o, rfl, h2, h3⟩
  · refine ⟨.row h.length 0 0 1 false, h ++ [.row 51 4 0 [v.d]], ?_, ?_, .inr ⟨0, h.length, by simp, take_le ht, by simp⟩⟩
    · simp only [appx, if_neg hne]
      rw [if_pos hle]
      rfl
    · rw [List.take_append_of_le_length (take_le ht)]; exact ht
  · have hlt := (List.getElem?_eq_some_iff.1 h3).1
    refine ⟨.row o (g + 1) 0 (vs.length + 1) false, h.set o (.row 51 4 (g + 1) (vs.map V.d ++ [v.d])), ?_, ?_, .inr ⟨g + 1, o, by simp, h2, ?_⟩⟩
    · simp only [appx, if_neg hne, h3]
      rw [if_pos hle]
      simp
    · rw [List.take_set_of_le h2]; exact ht
    · rw [List.getElem?_set_self hlt]; simp
end
theorem take_getH {H h : ZD} (ht : h.take H.length = H) {i : Nat} (hi : i < H.length) : h[i]? = H[i]? := by
  have : (h.take H.length)[i]? = h[i]? := List.getElem?_take_of_lt hi
  rw [← this, ht]
theorem BytesL.sh {R : DV} {bs : List Nat} (h : BytesL R bs) : R = .nils ∨ ∃ s l c, R = .list s l c := by
  rcases h with ⟨rfl, _⟩ | rfl
  · exact .inl rfl
  · exact .inr ⟨_, _, _, rfl⟩
end Go.Proofs.YtojhkbbnkhfnhaaGreatDoor
