/- Ideal runs. -/
import Derived.Test.YtmbgfbomgbdjeaaGreatDoorStep
import Derived.Test.YtmbgfbomgbdjeaaGreatDoorPackP
import Derived.Test.YtmbgfbomgbdjeaaGreatDoorPlainQ
namespace Go.Proofs.YtmbgfbomgbdjeaaGreatDoor
attribute [local go_sem] ZK ZF ZE ZG Zs Zi Zp Zl Zn Ze Zf Zm Zt Zu ZH Zr Zj ZD Zz Zy ZW ZA Yo put lk Od.v Za Zg Zo aj Yd Ye Yc au eqk DV.isU DV.cells ae ZP Ya ZO Zq splice ZQ af ZX eqs bh bV bQ aV bS bg aU aZ bR aW bU aY bf aX bW bY bP YA YB
attribute [local go_sem ↓] Zk
set_option linter.unusedVariables false
set_option linter.unusedSimpArgs false
set_option maxRecDepth 10000
theorem zh {h : Zb} {r g t n : Nat} {xs : List Nat} (h1 : h[r]? = some (.row t 1 g (xs.map iD))) (hn : xs.length = n) {i : Nat} (hi : i < n) (x : Nat) : stx h 1 (.elem (.row r g 0 n false) 1 i 0) (.int .i64 x) = some (h.set r (.row t 1 g ((xs.set i x).map iD))) := by
 subst hn
 have h2 : (xs.map iD)[i]? = some (iD xs[i]) := by simp [List.getElem?_eq_getElem hi]
 rw [stx, if_pos (by simp [DV.cells, DV.one])]
 simp only [h1]
 rw [if_pos (by simp [hi])]
 simp only [Nat.zero_add, h2]
 simp [pz, DV.one]
theorem pG {h : Zb} {r g t n : Nat} {xs : List Nat} (h1 : h[r]? = some (.row t 1 g (xs.map iD))) (hn : xs.length = n) : vw h 1 (.row r g 0 n false) = some (xs.map iD) := by
 subst hn; simp [vw, h1, List.take_of_length_le]
theorem Gv {Yz : Int} {vs : List V} (v : V) (hl : (vs.length : Int) < Yz) (x : V) : x ∈ (eE Yz vs v).2.2 ↔ x ∈ vs ∨ (x = v ∧ aF v = true) := by
 unfold eE
 cases hm : aF v
 ·simp
 ·rw [if_pos rfl]
  cases hf : gH v vs 0 with
  | some j =>
   obtain ⟨_, _, h3⟩ := vF v vs 0 j hf
   have := List.mem_of_getElem? h3
   simp only
   constructor
   ·exact .inl
   ·rintro (h | ⟨rfl, _⟩)
    ·exact h
    ·exact this
  | none =>
   simp only
   rw [if_neg (by omega)]
   simp
structure BSt (H h : Zb) (n : Nat) (L : DV) (vs : List V) (ids : List Nat) : Prop where
 len : H.length + 4 ≤ h.length
 old : ∀ i, i < H.length → h[i]? = H[i]?
 res : h[H.length]? = some (.box 70 [.int .i64 0, .nils, .nils])
 dict : DictAt h (H.length + 2) (H.length + 1) L 4096 vs
 idr : h[H.length + 3]? = some (.row 3 1 0 (ids.map iD))
 idl : ids.length = n
 row : ∀ r, rowOf L = some r → H.length + 4 ≤ r
section
variable {H h : Zb} {n : Nat} {L : DV} {vs : List V} {ids : List Nat}
theorem BSt.app (hB : BSt H h n L vs ids) (G : Zb) : BSt H (h ++ G) n L vs ids := by
 have hl := hB.len
 refine ⟨by simp; omega, fun i hi => ?_, ?_, hB.dict.app G, ?_, hB.idl, hB.row⟩
 ·rw [List.getElem?_append_left (by omega)]; exact hB.old i hi
 ·rw [List.getElem?_append_left (by omega)]; exact hB.res
 ·rw [List.getElem?_append_left (by omega)]; exact hB.idr
theorem BSt.add (hB : BSt H h n L vs ids) (v : V) : ∃ L' h', E X 58 [.ref (H.length + 2) 0, v.d] h = some (.tup [.int .i64 (eE 4096 vs v).1, .int .i64 (eE 4096 vs v).2.1], h') ∧ BSt H h' n L' (eE 4096 vs v).2.2 ids := by
 have hl := hB.len
 obtain ⟨L', h', e1, d1, b1, f1, r1⟩ := DW hB.dict (by decide) v
 have hr : ∀ i, i < H.length + 4 → rowOf L ≠ some i := fun i hi h => by have := hB.row i h; omega
 refine ⟨L', h', e1, ⟨by omega, fun i hi => ?_, ?_, d1, ?_, hB.idl, fun r hr' => ?_⟩⟩
 ·rw [f1 i (by omega) (by omega) (by omega) (hr i (by omega))]; exact hB.old i hi
 ·rw [f1 _ (by omega) (by omega) (by omega) (hr _ (by omega))]; exact hB.res
 ·rw [f1 _ (by omega) (by omega) (by omega) (hr _ (by omega))]; exact hB.idr
 ·rcases r1 with r1 | ⟨r0, q1, q2⟩
  ·exact hB.row r (by rw [← r1]; exact hr')
  ·rw [q1] at hr'; injection hr' with hr'; omega
theorem BSt.put (hB : BSt H h n L vs ids) (i x : Nat) : BSt H (h.set (H.length + 3) (.row 3 1 0 ((ids.set i x).map iD))) n L vs (ids.set i x) := by
 have hl := hB.len
 refine ⟨by simpa using hB.len, fun i hi => ?_, ?_, ?_, ?_, by simpa using hB.idl, hB.row⟩
 ·rw [List.getElem?_set_ne (by omega)]; exact hB.old i hi
 ·rw [List.getElem?_set_ne (by omega)]; exact hB.res
 ·refine hB.dict.keep ?_ ?_ fun r hr => ?_
  ·rw [List.getElem?_set_ne (by omega)]
  ·rw [List.getElem?_set_ne (by omega)]
  ·have := hB.row r hr
   rw [List.getElem?_set_ne (by omega)]
 ·rw [List.getElem?_set_self (by omega)]
end
def Dq (ls vs : List V) (ids : List Nat) (i : Nat) : Prop := ∀ j v, j < i → ls[j]? = some v → ∃ p, ids[j]? = some p ∧ vs[p]? = some v
theorem GF {H h : Zb} (hl : H.length ≤ h.length) (ho : ∀ i, i < H.length → h[i]? = H[i]?) : h.take H.length = H := by
 apply List.ext_getElem?
 intro i
 by_cases c : i < H.length
 ·rw [List.getElem?_take_of_lt c]; exact ho i c
 ·rw [List.getElem?_eq_none (by rw [List.length_take]; omega), List.getElem?_eq_none (by omega)]
theorem Nl {H : Zb} {A : DV} {ls : List V} (hA : ∀ g : Zb, g.take H.length = H → vw g 4 A = some (ls.map V.d)) (hb : ls.length ≤ 200) :
 ∀ (k i : Nat) (L : DV) (vs : List V) (ids : List Nat) (h : Zb), ls.length - i ≤ k → i ≤ ls.length → BSt H h ls.length L vs ids → Dq ls vs ids i → Gd vs → vs.length ≤ i → (∀ x, x ∈ vs ↔ x ∈ ls.take i) →
  (∃ y ex L' vs' NH h', C X (.loop lU) [(0, A), (2, .ref H.length 0), (4, .ref (H.length + 2) 0), (5, .row (H.length + 3) 0 0 ls.length false), (24, A), (25, .int .i64 ls.length), (26, .int .i64 i)] h = some (.exit 0, (0, A) :: (2, .ref H.length 0) :: (4, .ref (H.length + 2) 0) :: (5, .row (H.length + 3) 0 0 ls.length false) :: (24, A) :: (25, .int .i64 ls.length) :: (26, y) :: ex, h') ∧
   BSt H h' ls.length L' vs' NH ∧ Dq ls vs' NH ls.length ∧ Gd vs' ∧ vs'.length ≤ ls.length ∧ (∀ x, x ∈ vs' ↔ x ∈ ls)) ∨
  (∃ h' v, C X (.loop lU) [(0, A), (2, .ref H.length 0), (4, .ref (H.length + 2) 0), (5, .row (H.length + 3) 0 0 ls.length false), (24, A), (25, .int .i64 ls.length), (26, .int .i64 i)] h = some (.ret, [(2, .ref H.length 0), (3, .int .i64 1)], h') ∧
   h'[H.length]? = some (.box 70 [.int .i64 0, .nils, .nils]) ∧ (∀ i, i < H.length → h'[i]? = H[i]?) ∧ v ∈ ls ∧ aF v = false) := by
 intro k
 induction k with
 | zero =>
  intro i L vs ids h hk hi hB hN hG hl hm
  obtain rfl : i = ls.length := by omega
  rw [List.take_length] at hm
  refine .inl ⟨.int .i64 ls.length, [(27, .bool false)], L, vs, ids, h, ?_, hB, hN, hG, hl, hm⟩
  rw [Zc]
  unfold lU
  refine rn trivial ?_
  rw [Zx]
  simp [Za, lk]
 | succ k ih =>
  intro i L vs ids h hk hi hB hN hG hl hm
  by_cases c : i < ls.length
  ·obtain ⟨I, hI⟩ : ∃ I, I = i + 1 := ⟨_, rfl⟩
   have z1 : IntKind.i64.wrap ((i : Int) + 1) = (I : Int) := wr
   obtain ⟨v, hv⟩ : ∃ v, v = ls[i] := ⟨_, rfl⟩
   have fO : ls[i]? = some v := by rw [hv]; exact List.getElem?_eq_getElem c
   have hv' := hv.symm
   have fQ := hB.app [.box 56 v.d.cells]
   obtain ⟨L2, h2, BU, vz⟩ := fQ.add v
   have ko := hA h (GF (by have := hB.len; omega) hB.old)
   cases xR : aF v
   ·
    have CY : eE 4096 vs v = (0, 1, vs) := by simp [eE, xR]
    rw [CY] at BU vz
    refine .inr ⟨h2.set H.length (.box 70 [.int .i64 0, .nils, .nils]), v, ?_, ?_, fun j hj => ?_, List.mem_of_getElem? fO, xR⟩
    ·have r0 := vz.res
     have hs : C X lU [(0, A), (2, .ref H.length 0), (4, .ref (H.length + 2) 0), (5, .row (H.length + 3) 0 0 ls.length false), (24, A), (25, .int .i64 ls.length), (26, .int .i64 i)] h = some (.ret, [(2, .ref H.length 0), (3, .int .i64 1)], h2.set H.length (.box 70 [.int .i64 0, .nils, .nils])) := by
      clear ih hB fQ vz hN hG hm CY hA xR hv
      obtain ⟨vk, vn, vs', vt⟩ := v
      simp only [V.d, DV.cells] at *
      unfold lU
      refine Yx (eO @c @ko @hv' @fO @BU @r0) ?_
      simp [Za, lk]
     rw [Zc, hs, Yw]
    ·rw [List.getElem?_set_self (by have := vz.len; omega)]
    ·rw [List.getElem?_set_ne (by omega)]; exact vz.old j hj
   ·have hlt : ¬ (4096 : Int) ≤ (vs.length : Int) := by omega
    have hc0 : (eE 4096 vs v).2.1 = 0 := by
     unfold eE
     rw [if_pos xR]
     cases hf : gH v vs 0 with
     | some j => rfl
     | none => simp only; rw [if_neg hlt]
    obtain ⟨p, hp1, hp2⟩ := LH hc0
    have gE := LI 4096 v hG
    have cA := Ja 4096 vs v
    obtain ⟨t, ht⟩ := Jb 4096 vs v
    have BH := fun x => Gv (Yz := 4096) (vs := vs) v (by omega) x
    rw [hp1, hc0] at BU
    generalize (eE 4096 vs v).2.2 = vs2 at *
    have Sv := vz.put i p
    have Sf : Dq ls vs2 (ids.set i p) I := by
     intro j x hj hx
     by_cases hji : j = i
     ·subst hji
      rw [fO] at hx; injection hx with hx; subst hx
      exact ⟨p, List.getElem?_set_self (by rw [hB.idl]; omega), hp2⟩
     ·obtain ⟨q, q1, q2⟩ := hN j x (by omega) hx
      refine ⟨q, by rw [List.getElem?_set_ne (Ne.symm hji)]; exact q1, ?_⟩
      rw [ht, List.getElem?_append_left (List.getElem?_eq_some_iff.1 q2).1]; exact q2
    have RP : ∀ x, x ∈ vs2 ↔ x ∈ ls.take I := by
     intro x
     rw [BH, hm, hI, ← List.take_append_getElem c, List.mem_append, hv']
     simp [xR]
    have cK := ih I L2 vs2 (ids.set i p) _ (by omega) (by omega) Sv Sf gE (by omega) RP
    have r1 := pG vz.idr hB.idl
    have r2 := zh vz.idr hB.idl c p
    have hs : C X lU [(0, A), (2, .ref H.length 0), (4, .ref (H.length + 2) 0), (5, .row (H.length + 3) 0 0 ls.length false), (24, A), (25, .int .i64 ls.length), (26, .int .i64 i)] h = some (.norm, [(0, A), (2, .ref H.length 0), (4, .ref (H.length + 2) 0), (5, .row (H.length + 3) 0 0 ls.length false), (24, A), (25, .int .i64 ls.length), (26, .int .i64 I)], h2.set (H.length + 3) (.row 3 1 0 ((ids.set i p).map iD))) := by
     have CU := hB.idl
     clear ih cK hB fQ vz Sv hN Sf hG gE hm BH RP hA xR hv ht hp2
     obtain ⟨vk, vn, vs', vt⟩ := v
     simp only [V.d, DV.cells] at *
     generalize h2.set (H.length + 3) (.row 3 1 0 ((ids.set i p).map iD)) = h3 at *
     unfold lU
     refine Yx (gJ @c @z1 @ko @hv' @fO @BU @r1 @r2 @CU) ?_
     simp [Za, lk]
    rw [Zc, hs, ZB]
    exact cK
  ·exact ih i L vs ids h (by omega) hi hB hN hG (by omega) hm
theorem gZ : ∀ (a b : Nat), a ≤ b → wN a ≤ wN b := by
 intro a
 induction a using Nat.strongRecOn with
 | _ a ih =>
  intro b h
  rcases Nat.eq_zero_or_pos a with rfl | hp
  ·rw [wB]; omega
  ·rw [pC a hp, pC b (by omega)]
   have := ih (a / 2) (by omega) (b / 2) (by omega)
   omega
theorem wE {H h : Zb} (hl : H.length ≤ h.length) (ho : ∀ i, i < H.length → h[i]? = H[i]?) : h.take H.length = H := by
 apply List.ext_getElem?
 intro i
 by_cases c : i < H.length
 ·rw [List.getElem?_take_of_lt c]; exact ho i c
 ·rw [List.getElem?_eq_none (by rw [List.length_take]; omega), List.getElem?_eq_none (by omega)]
def e8 (S : DV) (ys : List V) : Prop := S = .list 4 (ys.map V.d) false ∨ (S = .nils ∧ ys = [])
theorem e8.vw {S : DV} {ys : List V} (h : e8 S ys) (g : Zb) : vw g 4 S = some (ys.map V.d) := by
 rcases h with rfl | ⟨rfl, rfl⟩ <;> rfl
theorem e8.one {S : DV} {ys : List V} (h : e8 S ys) : S.one = true := by
 rcases h with rfl | ⟨rfl, rfl⟩ <;> rfl
theorem Mi {H : Zb} {o m : Nat} {L : DV} {Yz : Int} {vs : List V} (hd : DictAt H o m L Yz vs) (hn : vs.length < 256) (hgd : Gd vs) :
 ∃ S T ys, E X 59 [.ref o 0] H = some (.tup [S, T], H) ∧ e8 S ys ∧ (∀ g, vw g 1 T = some ((vs.map (place ys)).map iD)) ∧ Up ys ∧ ys.Perm vs := by
 by_cases hv : vs = []
 ·subst hv
  exact ⟨.nils, .nils, [], Mh hd, .inr ⟨rfl, rfl⟩, fun _ => rfl, List.Pairwise.nil, List.Perm.refl _⟩
 ·refine ⟨_, _, (Go.Sort.sort lt vs.toArray).toList, Mg hd hv hn rfl, .inl rfl, fun g => ?_, KF hgd, rC vs⟩
  simp [vw, toS, List.map_map, Function.comp_def]
def Dr (h : Zb) (r : Nat) (hh : Zb) (cur : List Nat) : Prop := hh.length = h.length ∧ (∀ j, j ≠ r → hh[j]? = h[j]?) ∧ hh[r]? = some (.row 3 1 0 (cur.map iD))
theorem K2 {h : Zb} {A S T : DV} {c r n : Nat} {ids tl : List Nat} (hT : ∀ g, vw g 1 T = some (tl.map iD)) (hn : ids.length = n) (hb : n ≤ 200) (hi : ∀ p ∈ ids, p < tl.length) :
 ∀ (k i : Nat) (cur : List Nat) (hh : Zb), n - i ≤ k → i ≤ n → Dr h r hh cur → cur.length = n → (∀ j, j < i → cur[j]? = (ids.map fun p => tl.getD p 0)[j]?) → (∀ j, i ≤ j → cur[j]? = ids[j]?) →
  ∃ y ex h', C X (.loop rW) [(0, A), (2, .ref c 0), (5, .row r 0 0 n false), (10, S), (11, T), (51, .row r 0 0 n false), (52, .int .i64 n), (53, .int .i64 i)] hh = some (.exit 2, (0, A) :: (2, .ref c 0) :: (5, .row r 0 0 n false) :: (10, S) :: (11, T) :: (51, .row r 0 0 n false) :: (52, .int .i64 n) :: (53, y) :: ex, h') ∧ Dr h r h' (ids.map fun p => tl.getD p 0) := by
 intro k
 induction k with
 | zero =>
  intro i cur hh hk hin hI hcl h1 h2
  obtain rfl : i = n := by omega
  have hc : cur = ids.map fun p => tl.getD p 0 := by
   apply List.ext_getElem?
   intro j
   by_cases c : j < i
   ·exact h1 j c
   ·rw [List.getElem?_eq_none (by omega), List.getElem?_eq_none (by simp; omega)]
  rw [← hc]
  refine ⟨.int .i64 i, [(54, .bool false)], hh, ?_, hI⟩
  rw [Zc]
  unfold rW
  refine rn trivial ?_
  rw [Zx]
  simp [Za, lk]
 | succ k ih =>
  intro i cur hh hk hin hI hcl h1 h2
  by_cases cc : i < n
  ·obtain ⟨I, o7⟩ : ∃ I, I = i + 1 := ⟨_, rfl⟩
   have z1 : IntKind.i64.wrap ((i : Int) + 1) = (I : Int) := wr
   have hci : cur[i]? = some ids[i] := by rw [h2 i (Nat.le_refl _)]; exact List.getElem?_eq_getElem (by omega)
   have hp := hi _ (List.getElem_mem (show i < ids.length by omega))
   obtain ⟨p, gU⟩ : ∃ p, p = ids[i] := ⟨_, rfl⟩
   rw [← gU] at hci hp
   obtain ⟨x, hx⟩ : ∃ x, x = tl[p] := ⟨_, rfl⟩
   have hx' := hx.symm
   have RU : tl.getD p 0 = x := by rw [List.getD_eq_getElem?_getD, List.getElem?_eq_getElem hp, hx]; rfl
   have Sk : Dr h r (hh.set r (.row 3 1 0 ((cur.set i x).map iD))) (cur.set i x) := by
    have hlt := (List.getElem?_eq_some_iff.1 hI.2.2).1
    exact ⟨by simpa using hI.1, fun j hj => by rw [List.getElem?_set_ne (Ne.symm hj)]; exact hI.2.1 j hj, List.getElem?_set_self hlt⟩
   have r1 := pG hI.2.2 hcl
   have r2 := zh hI.2.2 hcl cc x
   have Vr := hT hh
   have c2 : i < cur.length := by omega
   have Vl : cur[i] = p := by rw [List.getElem?_eq_getElem c2] at hci; injection hci
   have cK := ih I (cur.set i x) _ (by omega) (by omega) Sk (by simpa using hcl) (fun j hj => by
    by_cases hji : j = i
    ·subst hji
     rw [List.getElem?_set_self c2, List.getElem?_map, List.getElem?_eq_getElem (show j < ids.length by omega), ← gU, Option.map_some, RU]
    ·rw [List.getElem?_set_ne (Ne.symm hji)]; exact h1 j (by omega)) (fun j hj => by
    rw [List.getElem?_set_ne (by omega)]; exact h2 j (by omega))
   have hs : C X rW [(0, A), (2, .ref c 0), (5, .row r 0 0 n false), (10, S), (11, T), (51, .row r 0 0 n false), (52, .int .i64 n), (53, .int .i64 i)] hh = some (.norm, [(0, A), (2, .ref c 0), (5, .row r 0 0 n false), (10, S), (11, T), (51, .row r 0 0 n false), (52, .int .i64 n), (53, .int .i64 I)], hh.set r (.row 3 1 0 ((cur.set i x).map iD))) := by
    clear ih cK hI Sk h1 h2 hi hT gU hx RU
    generalize hh.set r (.row 3 1 0 ((cur.set i x).map iD)) = h3 at *
    unfold rW
    refine Yx (ei @cc @c2 @z1 @Vl @hp @hx' @hcl @r1 @r2 @Vr) ?_
    simp [Za, lk]
   rw [Zc, hs, ZB]
   exact cK
  ·exact ih i cur hh (by omega) hin hI hcl h1 h2
abbrev e7 (n : Int) (D B : DV) : DV := .agg [.int .i64 n, D, B]
theorem BQ {H h' : Zb} {n k : Int} {D B : DV} (ht : h'.take H.length = H) (hD : D.one = true ∧ (D = .nils ∨ ∃ s l c, D = .list s l c)) (hB : B = .nils ∨ ∃ s l c, B = .list s l c) : fin H h' [e7 n D B, .int .i64 k] = (.tup [e7 n D B, .int .i64 k], H) := by
 simp only [fin]
 rw [if_pos ht]
 obtain ⟨_, hD⟩ := hD
 rcases hD with rfl | ⟨s, l, c, rfl⟩ <;> rcases hB with rfl | ⟨s', l', c', rfl⟩ <;> rfl
theorem e8.sh {S : DV} {ys : List V} (h : e8 S ys) : S = .nils ∨ ∃ s l c, S = .list s l c := by
 rcases h with rfl | ⟨rfl, rfl⟩
 ·exact .inr ⟨_, _, _, rfl⟩
 ·exact .inl rfl
set_option maxHeartbeats 1000000 in
theorem Md {H : Zb} {A : DV} {ls : List V} (hA : ∀ g : Zb, g.take H.length = H → vw g 4 A = some (ls.map V.d)) (hb : ls.length ≤ 200) :
 (∃ S ys, E X 36 [A] H = some (.tup [e7 ls.length S (.list 1 ((pack (ls.map (place ys)) (wC ys.length)).map bD) false), .int .i64 0], H) ∧ e8 S ys ∧ Up ys ∧ (∀ x, x ∈ ys ↔ x ∈ ls) ∧ ys.length ≤ ls.length ∧ ∀ x ∈ ls, aF x = true) ∨
 (E X 36 [A] H = some (.tup [e7 0 .nils .nils, .int .i64 1], H) ∧ ∃ v, v ∈ ls ∧ aF v = false) := by
 obtain ⟨h0, RS⟩ : ∃ h0, h0 = H ++ [HO.box 70 [.int .i64 0, .nils, .nils], .map 0 0 [], .box 117 [.int .i64 4096, .nils, .map (H.length + 1)], .row 3 1 0 (List.replicate ls.length (.int .i64 0))] := ⟨_, rfl⟩
 have VC : BSt H h0 ls.length .nils [] (List.replicate ls.length 0) := by
  subst RS
  refine ⟨by simp, fun i hi => by rw [List.getElem?_append_left hi], by simp, ⟨by simp [ae], by simp [ae, mG], .inl ⟨rfl, rfl⟩⟩, by simp [ae], by simp, fun r hr => by simp [rowOf] at hr⟩
 have O9 := L9 4096 (H ++ [.box 70 [.int .i64 0, .nils, .nils]])
 have hlim : CF 4096 = 4096 := by decide
 rw [hlim] at O9
 have hA0 : ∀ G, vw (H ++ G) 4 A = some (ls.map V.d) := fun G => hA _ List.take_left
 have dV : vw H 4 A = some (ls.map V.d) := hA _ List.take_length
 have d0 : ¬ (4096 : Int) < (ls.length : Int) := by omega
 have d0' : ¬ 4096 < ls.length := by omega
 have m0 : (0 : Int) ≤ (ls.length : Int) := by omega
 have m1 : (ls.length : Int) * 8 ≤ 140737488355328 := by omega
 have hW : Wc 1 (.int .i64 0) := by simp [Wc, DV.cells, DV.one]
 have Fj := Nl hA hb ls.length 0 .nils [] _ h0 (by omega) (by omega) VC (fun j v hj => by omega) OU (by simp) (by simp)
 rw [show ((0 : Nat) : Int) = 0 from rfl, RS] at Fj
 rcases Fj with ⟨y, ex, L', vs, ids, h1, hc, hB, hN, hG, hvl, hmem⟩ | ⟨h1, v, hc, hres, hold, hv1, zN⟩
 ·left
  obtain ⟨S, T, ys, VT, hS, hT, hU, hP⟩ := Mi hB.dict (by omega) hG
  have tP : ys.length ≤ ls.length := by rw [hP.length_eq]; exact hvl
  have CR : ∀ x, x ∈ ys ↔ x ∈ ls := fun x => by rw [hP.mem_iff, hmem]
  refine ⟨S, ys, ?_, hS, hU, CR, tP, fun x hx => hG.1 x ((hmem x).2 hx)⟩
  have CU : ∀ p ∈ ids, p < vs.length := by
   intro p hp
   obtain ⟨j, hj, rfl⟩ := List.mem_iff_getElem.1 hp
   have vl : j < ls.length := by rw [← hB.idl]; exact hj
   obtain ⟨q, q1, q2⟩ := hN j _ vl (List.getElem?_eq_getElem vl)
   rw [List.getElem?_eq_getElem hj] at q1
   injection q1 with q1
   rw [q1]; exact (List.getElem?_eq_some_iff.1 q2).1
  obtain ⟨y', vJ, h2, hc2, hI⟩ := K2 (h := h1) (A := A) (S := S) (c := H.length) (r := H.length + 3) (n := ls.length) hT hB.idl hb (by simpa using CU) ls.length 0 ids h1 (by omega) (by omega) ⟨rfl, fun _ _ => rfl, hB.idr⟩ hB.idl (fun j hj => by omega) (fun j _ => rfl)
  have hil : (ids.map fun p => (vs.map (place ys)).getD p 0) = ls.map (place ys) := by
   apply List.ext_getElem?
   intro j
   rw [List.getElem?_map, List.getElem?_map]
   by_cases cj : j < ls.length
   ·obtain ⟨q, q1, q2⟩ := hN j _ cj (List.getElem?_eq_getElem cj)
    rw [q1, List.getElem?_eq_getElem cj]
    simp [List.getD_eq_getElem?_getD, q2]
   ·rw [List.getElem?_eq_none (by rw [hB.idl]; omega), List.getElem?_eq_none (by omega)]
    rfl
  rw [hil] at hI
  have r1 := pG (n := ls.length) hI.2.2 (by simp)
  have r0 := pG hB.idr hB.idl
  have UA := hB.idl
  have RH : ∀ G, vw (h2 ++ G) 1 (.row (H.length + 3) 0 0 ls.length false) = some ((ls.map (place ys)).map iD) := fun G => pG (by rw [List.getElem?_append_left (List.getElem?_eq_some_iff.1 hI.2.2).1]; exact hI.2.2) (by simp)
  have ql := yJ ys.length (by omega) h2
  have tV : wC ys.length ≤ 62 := by
   have h1 := gZ (ys.length - 1) 255 (by omega)
   have h2 : wN 255 = 8 := by decide
   unfold wC; omega
  have SI := Qz (H := h2) RH tV (by simp; omega) (fun p hp => by
   obtain ⟨x, hx, rfl⟩ := List.mem_map.1 hp
   have hq := (List.getElem?_eq_some_iff.1 (lh hU ((CR x).2 hx)).1).1
   exact ⟨by omega, gZ _ _ (by omega)⟩)
  have Kb := hS.vw
  have Ff := hS.one
  have hres : h2[H.length]? = some (.box 70 [.int .i64 0, .nils, .nils]) := by rw [hI.2.1 _ (by omega)]; exact hB.res
  have hlen : H.length + 4 ≤ h2.length := by rw [hI.1]; exact hB.len
  have hold : ∀ i, i < H.length → h2[i]? = H[i]? := fun i hi => by rw [hI.2.1 _ (by omega)]; exact hB.old i hi
  have hA2 := hA h2 (wE (by omega) hold)
  generalize pack (ls.map (place ys)) (wC ys.length) = pk at *
  generalize wC ys.length = w at *
  have aA : fin H (h2.set H.length (.box 70 [.int .i64 ls.length, S, .list 1 (pk.map bD) false])) [e7 ls.length S (.list 1 (pk.map bD) false), .int .i64 0] = _ :=
   BQ (wE (by simp; omega) (fun i hi => by rw [List.getElem?_set_ne (by omega)]; exact hold i hi)) ⟨Ff, hS.sh⟩ (.inr ⟨_, _, _, rfl⟩)
  have hres2 : (h2.set H.length (.box 70 [.int .i64 ls.length, S, .list 1 (pk.map bD) false]))[H.length]? = some (.box 70 [.int .i64 ls.length, S, .list 1 (pk.map bD) false]) := List.getElem?_set_self (by omega)
  generalize oA : h2.set H.length (.box 70 [.int .i64 ls.length, S, .list 1 (pk.map bD) false]) = h3 at aA hres2
  clear hN hG hmem CR hP hU hI hB hT CU hil RH
  rw [show ((0 : Nat) : Int) = 0 from rfl] at hc2
  rw [Zv (X := X) _ Gk _ rfl rfl]; unfold Gk
  refine rn (ga @hA0 @dV @d0 @d0' @O9 @m0 @m1 @hW) ?_
  refine Yy ?_
  rw [hc]
  have R7 := Kb
  refine rn (cg @VT @r0 @UA) ?_
  refine Yy ?_
  rw [hc2]
  rcases hS with rfl | ⟨rfl, rfl⟩
  ·clear R7
   refine rn (fR @hA2 @Kb @ql @SI @hres @Ff @oA) ?_
   simp only [Zh, ZV, lk, Za, List.map_cons, List.map_nil, reduceIte, Option.map_some, Nat.reduceEqDiff]
   rw [Zo, hres2]
   exact congrArg some aA
  ·clear R7
   rw [show ((([] : List V).length : Nat) : Int) = 0 from rfl] at ql
   have Kb : ∀ g, vw g 4 .nils = some [] := fun _ => rfl
   refine rn (fR @hA2 @Kb @ql @SI @hres @Ff @oA) ?_
   simp only [Zh, ZV, lk, Za, List.map_cons, List.map_nil, reduceIte, Option.map_some, Nat.reduceEqDiff]
   rw [Zo, hres2]
   exact congrArg some aA
 ·right
  refine ⟨?_, v, hv1, zN⟩
  have aA : fin H h1 [e7 0 .nils .nils, .int .i64 1] = _ := BQ (wE (by have := (List.getElem?_eq_some_iff.1 hres).1; omega) hold) ⟨rfl, .inl rfl⟩ (.inl rfl)
  rw [Zv (X := X) _ Gk _ rfl rfl]; unfold Gk
  refine rn (ga @hA0 @dV @d0 @d0' @O9 @m0 @m1 @hW) ?_
  refine Yy ?_
  rw [hc]
  refine rn trivial ?_
  simp only [Zh, ZV, lk, Za, List.map_cons, List.map_nil, reduceIte, Option.map_some, Nat.reduceEqDiff]
  have hl : aG h1 true 3 (.ref H.length 0) = some (e7 0 .nils .nils) := by rw [Zo, hres]; rfl
  rw [hl]
  simp only [Option.map_some]
  rw [aA]
def iG (H h : Zb) (d : DV) (vs : List V) : Prop :=
 h.take H.length = H ∧ ((d = .nils ∧ vs = []) ∨ ∃ g o, d = .row o g 0 vs.length false ∧ H.length ≤ o ∧ h[o]? = some (.row 56 4 g (vs.map V.d)))
section
variable {H h : Zb} {d : DV} {vs : List V}
theorem iG.zero : iG H H .nils [] := ⟨List.take_length, .inl ⟨rfl, rfl⟩⟩
theorem iG.ext (hg : iG H h d vs) (G : Zb) : iG H (h ++ G) d vs := by
 obtain ⟨ht, hr⟩ := hg
 refine ⟨?_, ?_⟩
 ·rw [List.take_append_of_le_length (jS ht)]; exact ht
 ·rcases hr with hr | ⟨g, o, h1, h2, h3⟩
  ·exact .inl hr
  ·exact .inr ⟨g, o, h1, h2, by rw [List.getElem?_append_left (List.getElem?_eq_some_iff.1 h3).1]; exact h3⟩
theorem iG.vw (hg : iG H h d vs) (G : Zb) : vw (h ++ G) 4 d = some (vs.map V.d) := by
 rcases (hg.ext G).2 with ⟨rfl, rfl⟩ | ⟨g, o, rfl, h2, h3⟩
 ·rfl
 ·simp [Go.Proofs.YtmbgfbomgbdjeaaGreatDoor.vw, h3, List.take_of_length_le]
theorem iG.vw0 (hg : iG H h d vs) : Go.Proofs.YtmbgfbomgbdjeaaGreatDoor.vw h 4 d = some (vs.map V.d) := by
 have := hg.vw []; rwa [List.append_nil] at this
theorem iG.app (hg : iG H h d vs) (v : V) (hb : vs.length ≤ 1000000) : ∃ d' h', bE h 56 4 40 d (vs.map V.d) [v.d] = some (d', h') ∧ iG H h' d' (vs ++ [v]) := by
 have hle : ((vs.map V.d).length + [v.d].length) * 40 ≤ 140737488355328 := by simp; omega
 have hne : [v.d] ≠ [] := by simp
 obtain ⟨ht, hr⟩ := hg
 rcases hr with ⟨rfl, rfl⟩ | ⟨g, o, rfl, h2, h3⟩
 ·refine ⟨.row h.length 0 0 1 false, h ++ [.row 56 4 0 [v.d]], ?_, ?_, .inr ⟨0, h.length, by simp, jS ht, by simp⟩⟩
  ·simp only [bE, if_neg hne]
   rw [if_pos hle]
   rfl
  ·rw [List.take_append_of_le_length (jS ht)]; exact ht
 ·have hlt := (List.getElem?_eq_some_iff.1 h3).1
  refine ⟨.row o (g + 1) 0 (vs.length + 1) false, h.set o (.row 56 4 (g + 1) (vs.map V.d ++ [v.d])), ?_, ?_, .inr ⟨g + 1, o, by simp, h2, ?_⟩⟩
  ·simp only [bE, if_neg hne, h3]
   rw [if_pos hle]
   simp
  ·rw [List.take_set_of_le h2]; exact ht
  ·rw [List.getElem?_set_self hlt]; simp
end
theorem iG.pre {H H1 h : Zb} {d : DV} {vs : List V} (hB : iG H1 h d vs) {x : HO} (ay : H1 = H ++ [x]) : h.take H.length = H := by
 have h1 : h.take H.length = (h.take H1.length).take H.length := by rw [List.take_take, Nat.min_eq_left (by rw [ay]; simp)]
 rw [h1, hB.1, ay]
 exact List.take_left
theorem bK.sh {R : DV} {bs : List Nat} (h : bK R bs) : R = .nils ∨ ∃ s l c, R = .list s l c := by
 rcases h with ⟨rfl, _⟩ | rfl
 ·exact .inl rfl
 ·exact .inr ⟨_, _, _, rfl⟩
end Go.Proofs.YtmbgfbomgbdjeaaGreatDoor
