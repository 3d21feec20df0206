/- Ideal runs. -/
import Derived.Test.YtmbgfbomgbdjeaaGreatDoorStep
import Derived.Test.YtmbgfbomgbdjeaaGreatDoorPackP
import Derived.Test.YtmbgfbomgbdjeaaGreatDoorPlainQ
namespace Go.Proofs.YtmbgfbomgbdjeaaGreatDoor
attribute [local go_sem] ZN ZG ZF ZH Zt Zh Zp Zk Zm Ze Zf Zl Zu Zv ZI Zs Zi ZE Zy Zx ZX ZA Yp put lk Od.v Za Zg Zo ax Yg Yh Yd ay eqk DV.isU DV.cells ae ZO Yb ZP Zr splice ZR af ZY eqs bJ cr bY bz cg bH bw bF bZ bA cm bE bG bC cu cw bW Yx Yy
attribute [local go_sem ↓] Zj
set_option linter.unusedVariables false
set_option linter.unusedSimpArgs false
set_option maxRecDepth 10000
theorem zq {h : Zb} {r g t n : Nat} {xs : List Nat} (h1 : h[r]? = some (.row t 1 g (xs.map iD))) (hn : xs.length = n) {i : Nat} (hi : i < n) (x : Nat) : stx h 1 (.elem (.row r g 0 n false) 1 i 0) (.int .i64 x) = some (h.set r (.row t 1 g ((xs.set i x).map iD))) := by
 subst hn
 have h2 : (xs.map iD)[i]? = some (iD xs[i]) := by simp [List.getElem?_eq_getElem hi]
 rw [stx, if_pos (by simp [DV.cells, DV.one])]
 simp only [h1]
 rw [if_pos (by simp [hi])]
 simp only [Nat.zero_add, h2]
 simp [oA, DV.one]
theorem pz {h : Zb} {r g t n : Nat} {xs : List Nat} (h1 : h[r]? = some (.row t 1 g (xs.map iD))) (hn : xs.length = n) : vw h 1 (.row r g 0 n false) = some (xs.map iD) := by
 subst hn; simp [vw, h1, List.take_of_length_le]
theorem G9 {Yw : Int} {vs : List V} (v : V) (hl : (vs.length : Int) < Yw) (x : V) : x ∈ (eF Yw vs v).2.2 ↔ x ∈ vs ∨ (x = v ∧ aG v = true) := by
 unfold eF
 cases hm : aG v
 ·simp
 ·rw [if_pos rfl]
  cases hf : dR v vs 0 with
  | some j =>
   obtain ⟨_, _, h3⟩ := qb v vs 0 j hf
   have := List.mem_of_getElem? h3
   simp only
   constructor
   ·exact .inl
   ·rintro (h | ⟨rfl, _⟩)
    ·exact h
    ·exact this
  | none =>
   simp only
   rw [if_neg (by omega)]
   simp
structure BSt (H h : Zb) (n : Nat) (L : DV) (vs : List V) (ids : List Nat) : Prop where
 len : H.length + 4 ≤ h.length
 old : ∀ i, i < H.length → h[i]? = H[i]?
 res : h[H.length]? = some (.box 70 [.int .i64 0, .nils, .nils])
 dict : DictAt h (H.length + 2) (H.length + 1) L 4096 vs
 idr : h[H.length + 3]? = some (.row 3 1 0 (ids.map iD))
 idl : ids.length = n
 row : ∀ r, rowOf L = some r → H.length + 4 ≤ r
section
variable {H h : Zb} {n : Nat} {L : DV} {vs : List V} {ids : List Nat}
theorem BSt.app (hB : BSt H h n L vs ids) (G : Zb) : BSt H (h ++ G) n L vs ids := by
 have hl := hB.len
 refine ⟨by simp; omega, fun i hi => ?_, ?_, hB.dict.app G, ?_, hB.idl, hB.row⟩
 ·rw [List.getElem?_append_left (by omega)]; exact hB.old i hi
 ·rw [List.getElem?_append_left (by omega)]; exact hB.res
 ·rw [List.getElem?_append_left (by omega)]; exact hB.idr
theorem BSt.add (hB : BSt H h n L vs ids) (v : V) : ∃ L' h', E X 58 [.ref (H.length + 2) 0, v.d] h = some (.tup [.int .i64 (eF 4096 vs v).1, .int .i64 (eF 4096 vs v).2.1], h') ∧ BSt H h' n L' (eF 4096 vs v).2.2 ids := by
 have hl := hB.len
 obtain ⟨L', h', e1, d1, b1, f1, r1⟩ := El hB.dict (by decide) v
 have hr : ∀ i, i < H.length + 4 → rowOf L ≠ some i := fun i hi h => by have := hB.row i h; omega
 refine ⟨L', h', e1, ⟨by omega, fun i hi => ?_, ?_, d1, ?_, hB.idl, fun r hr' => ?_⟩⟩
 ·rw [f1 i (by omega) (by omega) (by omega) (hr i (by omega))]; exact hB.old i hi
 ·rw [f1 _ (by omega) (by omega) (by omega) (hr _ (by omega))]; exact hB.res
 ·rw [f1 _ (by omega) (by omega) (by omega) (hr _ (by omega))]; exact hB.idr
 ·rcases r1 with r1 | ⟨r0, q1, q2⟩
  ·exact hB.row r (by rw [← r1]; exact hr')
  ·rw [q1] at hr'; injection hr' with hr'; omega
theorem BSt.put (hB : BSt H h n L vs ids) (i x : Nat) : BSt H (h.set (H.length + 3) (.row 3 1 0 ((ids.set i x).map iD))) n L vs (ids.set i x) := by
 have hl := hB.len
 refine ⟨by simpa using hB.len, fun i hi => ?_, ?_, ?_, ?_, by simpa using hB.idl, hB.row⟩
 ·rw [List.getElem?_set_ne (by omega)]; exact hB.old i hi
 ·rw [List.getElem?_set_ne (by omega)]; exact hB.res
 ·refine hB.dict.keep ?_ ?_ fun r hr => ?_
  ·rw [List.getElem?_set_ne (by omega)]
  ·rw [List.getElem?_set_ne (by omega)]
  ·have := hB.row r hr
   rw [List.getElem?_set_ne (by omega)]
 ·rw [List.getElem?_set_self (by omega)]
end
def D6 (ls vs : List V) (ids : List Nat) (i : Nat) : Prop := ∀ j v, j < i → ls[j]? = some v → ∃ p, ids[j]? = some p ∧ vs[p]? = some v
theorem Hr {H h : Zb} (hl : H.length ≤ h.length) (ho : ∀ i, i < H.length → h[i]? = H[i]?) : h.take H.length = H := by
 apply List.ext_getElem?
 intro i
 by_cases c : i < H.length
 ·rw [List.getElem?_take_of_lt c]; exact ho i c
 ·rw [List.getElem?_eq_none (by rw [List.length_take]; omega), List.getElem?_eq_none (by omega)]
theorem NM {H : Zb} {A : DV} {ls : List V} (hA : ∀ g : Zb, g.take H.length = H → vw g 4 A = some (ls.map V.d)) (hb : ls.length ≤ 200) :
 ∀ (k i : Nat) (L : DV) (vs : List V) (ids : List Nat) (h : Zb), ls.length - i ≤ k → i ≤ ls.length → BSt H h ls.length L vs ids → D6 ls vs ids i → Gd vs → vs.length ≤ i → (∀ x, x ∈ vs ↔ x ∈ ls.take i) →
  (∃ y ex L' vs' N7 h', C X (.loop lM) [(0, A), (2, .ref H.length 0), (4, .ref (H.length + 2) 0), (5, .row (H.length + 3) 0 0 ls.length false), (24, A), (25, .int .i64 ls.length), (26, .int .i64 i)] h = some (.exit 0, (0, A) :: (2, .ref H.length 0) :: (4, .ref (H.length + 2) 0) :: (5, .row (H.length + 3) 0 0 ls.length false) :: (24, A) :: (25, .int .i64 ls.length) :: (26, y) :: ex, h') ∧
   BSt H h' ls.length L' vs' N7 ∧ D6 ls vs' N7 ls.length ∧ Gd vs' ∧ vs'.length ≤ ls.length ∧ (∀ x, x ∈ vs' ↔ x ∈ ls)) ∨
  (∃ h' v, C X (.loop lM) [(0, A), (2, .ref H.length 0), (4, .ref (H.length + 2) 0), (5, .row (H.length + 3) 0 0 ls.length false), (24, A), (25, .int .i64 ls.length), (26, .int .i64 i)] h = some (.ret, [(2, .ref H.length 0), (3, .int .i64 1)], h') ∧
   h'[H.length]? = some (.box 70 [.int .i64 0, .nils, .nils]) ∧ (∀ i, i < H.length → h'[i]? = H[i]?) ∧ v ∈ ls ∧ aG v = false) := by
 intro k
 induction k with
 | zero =>
  intro i L vs ids h hk hi hB hN hG hl hm
  obtain rfl : i = ls.length := by omega
  rw [List.take_length] at hm
  refine .inl ⟨.int .i64 ls.length, [(27, .bool false)], L, vs, ids, h, ?_, hB, hN, hG, hl, hm⟩
  rw [Zc]
  unfold lM
  refine rn trivial ?_
  rw [Zw]
  simp [Za, lk]
 | succ k ih =>
  intro i L vs ids h hk hi hB hN hG hl hm
  by_cases c : i < ls.length
  ·obtain ⟨I, hI⟩ : ∃ I, I = i + 1 := ⟨_, rfl⟩
   have z1 : IntKind.i64.wrap ((i : Int) + 1) = (I : Int) := wr
   obtain ⟨v, hv⟩ : ∃ v, v = ls[i] := ⟨_, rfl⟩
   have ef : ls[i]? = some v := by rw [hv]; exact List.getElem?_eq_getElem c
   have hv' := hv.symm
   have iX := hB.app [.box 56 v.d.cells]
   obtain ⟨L2, h2, Cx, gH⟩ := iX.add v
   have fu := hA h (Hr (by have := hB.len; omega) hB.old)
   cases kJ : aG v
   ·
    have Dt : eF 4096 vs v = (0, 1, vs) := by simp [eF, kJ]
    rw [Dt] at Cx gH
    refine .inr ⟨h2.set H.length (.box 70 [.int .i64 0, .nils, .nils]), v, ?_, ?_, fun j hj => ?_, List.mem_of_getElem? ef, kJ⟩
    ·have r0 := gH.res
     have hs : C X lM [(0, A), (2, .ref H.length 0), (4, .ref (H.length + 2) 0), (5, .row (H.length + 3) 0 0 ls.length false), (24, A), (25, .int .i64 ls.length), (26, .int .i64 i)] h = some (.ret, [(2, .ref H.length 0), (3, .int .i64 1)], h2.set H.length (.box 70 [.int .i64 0, .nils, .nils])) := by
      clear ih hB iX gH hN hG hm Dt hA kJ hv
      obtain ⟨vk, vn, vs', vt⟩ := v
      simp only [V.d, DV.cells] at *
      unfold lM
      refine ah (gJ @c @fu @hv' @ef @Cx @r0) ?_
      simp [Za, lk]
     rw [Zc, hs, aR]
    ·rw [List.getElem?_set_self (by have := gH.len; omega)]
    ·rw [List.getElem?_set_ne (by omega)]; exact gH.old j hj
   ·have hlt : ¬ (4096 : Int) ≤ (vs.length : Int) := by omega
    have hc0 : (eF 4096 vs v).2.1 = 0 := by
     unfold eF
     rw [if_pos kJ]
     cases hf : dR v vs 0 with
     | some j => rfl
     | none => simp only; rw [if_neg hlt]
    obtain ⟨p, hp1, hp2⟩ := L6 hc0
    have ei := L9 4096 v hG
    have cO := JF 4096 vs v
    obtain ⟨t, ht⟩ := JG 4096 vs v
    have vQ := fun x => G9 (Yw := 4096) (vs := vs) v (by omega) x
    rw [hp1, hc0] at Cx
    generalize (eF 4096 vs v).2.2 = vs2 at *
    have SJ := gH.put i p
    have SD : D6 ls vs2 (ids.set i p) I := by
     intro j x hj hx
     by_cases hji : j = i
     ·subst hji
      rw [ef] at hx; injection hx with hx; subst hx
      exact ⟨p, List.getElem?_set_self (by rw [hB.idl]; omega), hp2⟩
     ·obtain ⟨q, q1, q2⟩ := hN j x (by omega) hx
      refine ⟨q, by rw [List.getElem?_set_ne (Ne.symm hji)]; exact q1, ?_⟩
      rw [ht, List.getElem?_append_left (List.getElem?_eq_some_iff.1 q2).1]; exact q2
    have Sl : ∀ x, x ∈ vs2 ↔ x ∈ ls.take I := by
     intro x
     rw [vQ, hm, hI, ← List.take_append_getElem c, List.mem_append, hv']
     simp [kJ]
    have eY := ih I L2 vs2 (ids.set i p) _ (by omega) (by omega) SJ SD ei (by omega) Sl
    have r1 := pz gH.idr hB.idl
    have r2 := zq gH.idr hB.idl c p
    have hs : C X lM [(0, A), (2, .ref H.length 0), (4, .ref (H.length + 2) 0), (5, .row (H.length + 3) 0 0 ls.length false), (24, A), (25, .int .i64 ls.length), (26, .int .i64 i)] h = some (.norm, [(0, A), (2, .ref H.length 0), (4, .ref (H.length + 2) 0), (5, .row (H.length + 3) 0 0 ls.length false), (24, A), (25, .int .i64 ls.length), (26, .int .i64 I)], h2.set (H.length + 3) (.row 3 1 0 ((ids.set i p).map iD))) := by
     have Dm := hB.idl
     clear ih eY hB iX gH SJ hN SD hG ei hm vQ Sl hA kJ hv ht hp2
     obtain ⟨vk, vn, vs', vt⟩ := v
     simp only [V.d, DV.cells] at *
     generalize h2.set (H.length + 3) (.row 3 1 0 ((ids.set i p).map iD)) = h3 at *
     unfold lM
     refine ah (gI @c @z1 @fu @hv' @ef @Cx @r1 @r2 @Dm) ?_
     simp [Za, lk]
    rw [Zc, hs, ZB]
    exact eY
  ·exact ih i L vs ids h (by omega) hi hB hN hG (by omega) hm
theorem iK : ∀ (a b : Nat), a ≤ b → wN a ≤ wN b := by
 intro a
 induction a using Nat.strongRecOn with
 | _ a ih =>
  intro b h
  rcases Nat.eq_zero_or_pos a with rfl | hp
  ·rw [wV]; omega
  ·rw [po a hp, po b (by omega)]
   have := ih (a / 2) (by omega) (b / 2) (by omega)
   omega
theorem ni {H h : Zb} (hl : H.length ≤ h.length) (ho : ∀ i, i < H.length → h[i]? = H[i]?) : h.take H.length = H := by
 apply List.ext_getElem?
 intro i
 by_cases c : i < H.length
 ·rw [List.getElem?_take_of_lt c]; exact ho i c
 ·rw [List.getElem?_eq_none (by rw [List.length_take]; omega), List.getElem?_eq_none (by omega)]
def eU (S : DV) (ys : List V) : Prop := S = .list 4 (ys.map V.d) false ∨ (S = .nils ∧ ys = [])
theorem eU.vw {S : DV} {ys : List V} (h : eU S ys) (g : Zb) : vw g 4 S = some (ys.map V.d) := by
 rcases h with rfl | ⟨rfl, rfl⟩ <;> rfl
theorem eU.one {S : DV} {ys : List V} (h : eU S ys) : S.one = true := by
 rcases h with rfl | ⟨rfl, rfl⟩ <;> rfl
theorem MF {H : Zb} {o m : Nat} {L : DV} {Yw : Int} {vs : List V} (hd : DictAt H o m L Yw vs) (hn : vs.length < 256) (hgd : Gd vs) :
 ∃ S T ys, E X 59 [.ref o 0] H = some (.tup [S, T], H) ∧ eU S ys ∧ (∀ g, vw g 1 T = some ((vs.map (place ys)).map iD)) ∧ Up ys ∧ ys.Perm vs := by
 by_cases hv : vs = []
 ·subst hv
  exact ⟨.nils, .nils, [], ME hd, .inr ⟨rfl, rfl⟩, fun _ => rfl, List.Pairwise.nil, List.Perm.refl _⟩
 ·refine ⟨_, _, (Go.Sort.sort lt vs.toArray).toList, MD hd hv hn rfl, .inl rfl, fun g => ?_, BM hgd, oK vs⟩
  simp [vw, toS, List.map_map, Function.comp_def]
def D7 (h : Zb) (r : Nat) (hh : Zb) (cur : List Nat) : Prop := hh.length = h.length ∧ (∀ j, j ≠ r → hh[j]? = h[j]?) ∧ hh[r]? = some (.row 3 1 0 (cur.map iD))
theorem Lt {h : Zb} {A S T : DV} {c r n : Nat} {ids tl : List Nat} (hT : ∀ g, vw g 1 T = some (tl.map iD)) (hn : ids.length = n) (hb : n ≤ 200) (hi : ∀ p ∈ ids, p < tl.length) :
 ∀ (k i : Nat) (cur : List Nat) (hh : Zb), n - i ≤ k → i ≤ n → D7 h r hh cur → cur.length = n → (∀ j, j < i → cur[j]? = (ids.map fun p => tl.getD p 0)[j]?) → (∀ j, i ≤ j → cur[j]? = ids[j]?) →
  ∃ y ex h', C X (.loop rV) [(0, A), (2, .ref c 0), (5, .row r 0 0 n false), (10, S), (11, T), (51, .row r 0 0 n false), (52, .int .i64 n), (53, .int .i64 i)] hh = some (.exit 2, (0, A) :: (2, .ref c 0) :: (5, .row r 0 0 n false) :: (10, S) :: (11, T) :: (51, .row r 0 0 n false) :: (52, .int .i64 n) :: (53, y) :: ex, h') ∧ D7 h r h' (ids.map fun p => tl.getD p 0) := by
 intro k
 induction k with
 | zero =>
  intro i cur hh hk hin hI hcl h1 h2
  obtain rfl : i = n := by omega
  have hc : cur = ids.map fun p => tl.getD p 0 := by
   apply List.ext_getElem?
   intro j
   by_cases c : j < i
   ·exact h1 j c
   ·rw [List.getElem?_eq_none (by omega), List.getElem?_eq_none (by simp; omega)]
  rw [← hc]
  refine ⟨.int .i64 i, [(54, .bool false)], hh, ?_, hI⟩
  rw [Zc]
  unfold rV
  refine rn trivial ?_
  rw [Zw]
  simp [Za, lk]
 | succ k ih =>
  intro i cur hh hk hin hI hcl h1 h2
  by_cases cc : i < n
  ·obtain ⟨I, o4⟩ : ∃ I, I = i + 1 := ⟨_, rfl⟩
   have z1 : IntKind.i64.wrap ((i : Int) + 1) = (I : Int) := wr
   have hci : cur[i]? = some ids[i] := by rw [h2 i (Nat.le_refl _)]; exact List.getElem?_eq_getElem (by omega)
   have hp := hi _ (List.getElem_mem (show i < ids.length by omega))
   obtain ⟨p, j3⟩ : ∃ p, p = ids[i] := ⟨_, rfl⟩
   rw [← j3] at hci hp
   obtain ⟨x, hx⟩ : ∃ x, x = tl[p] := ⟨_, rfl⟩
   have hx' := hx.symm
   have Sq : tl.getD p 0 = x := by rw [List.getD_eq_getElem?_getD, List.getElem?_eq_getElem hp, hx]; rfl
   have Ch : D7 h r (hh.set r (.row 3 1 0 ((cur.set i x).map iD))) (cur.set i x) := by
    have hlt := (List.getElem?_eq_some_iff.1 hI.2.2).1
    exact ⟨by simpa using hI.1, fun j hj => by rw [List.getElem?_set_ne (Ne.symm hj)]; exact hI.2.1 j hj, List.getElem?_set_self hlt⟩
   have r1 := pz hI.2.2 hcl
   have r2 := zq hI.2.2 hcl cc x
   have VI := hT hh
   have c2 : i < cur.length := by omega
   have VC : cur[i] = p := by rw [List.getElem?_eq_getElem c2] at hci; injection hci
   have eY := ih I (cur.set i x) _ (by omega) (by omega) Ch (by simpa using hcl) (fun j hj => by
    by_cases hji : j = i
    ·subst hji
     rw [List.getElem?_set_self c2, List.getElem?_map, List.getElem?_eq_getElem (show j < ids.length by omega), ← j3, Option.map_some, Sq]
    ·rw [List.getElem?_set_ne (Ne.symm hji)]; exact h1 j (by omega)) (fun j hj => by
    rw [List.getElem?_set_ne (by omega)]; exact h2 j (by omega))
   have hs : C X rV [(0, A), (2, .ref c 0), (5, .row r 0 0 n false), (10, S), (11, T), (51, .row r 0 0 n false), (52, .int .i64 n), (53, .int .i64 i)] hh = some (.norm, [(0, A), (2, .ref c 0), (5, .row r 0 0 n false), (10, S), (11, T), (51, .row r 0 0 n false), (52, .int .i64 n), (53, .int .i64 I)], hh.set r (.row 3 1 0 ((cur.set i x).map iD))) := by
    clear ih eY hI Ch h1 h2 hi hT j3 hx Sq
    generalize hh.set r (.row 3 1 0 ((cur.set i x).map iD)) = h3 at *
    unfold rV
    refine ah (dL @cc @c2 @z1 @VC @hp @hx' @hcl @r1 @r2 @VI) ?_
    simp [Za, lk]
   rw [Zc, hs, ZB]
   exact eY
  ·exact ih i cur hh (by omega) hin hI hcl h1 h2
abbrev eS (n : Int) (D B : DV) : DV := .agg [.int .i64 n, D, B]
theorem tH {H h' : Zb} {n k : Int} {D B : DV} (ht : h'.take H.length = H) (hD : D.one = true ∧ (D = .nils ∨ ∃ s l c, D = .list s l c)) (hB : B = .nils ∨ ∃ s l c, B = .list s l c) : fin H h' [eS n D B, .int .i64 k] = (.tup [eS n D B, .int .i64 k], H) := by
 simp only [fin]
 rw [if_pos ht]
 obtain ⟨_, hD⟩ := hD
 rcases hD with rfl | ⟨s, l, c, rfl⟩ <;> rcases hB with rfl | ⟨s', l', c', rfl⟩ <;> rfl
theorem eU.sh {S : DV} {ys : List V} (h : eU S ys) : S = .nils ∨ ∃ s l c, S = .list s l c := by
 rcases h with rfl | ⟨rfl, rfl⟩
 ·exact .inr ⟨_, _, _, rfl⟩
 ·exact .inl rfl
set_option maxHeartbeats 1000000 in
theorem Mz {H : Zb} {A : DV} {ls : List V} (hA : ∀ g : Zb, g.take H.length = H → vw g 4 A = some (ls.map V.d)) (hb : ls.length ≤ 200) :
 (∃ S ys, E X 36 [A] H = some (.tup [eS ls.length S (.list 1 ((pack (ls.map (place ys)) (wC ys.length)).map bD) false), .int .i64 0], H) ∧ eU S ys ∧ Up ys ∧ (∀ x, x ∈ ys ↔ x ∈ ls) ∧ ys.length ≤ ls.length ∧ ∀ x ∈ ls, aG x = true) ∨
 (E X 36 [A] H = some (.tup [eS 0 .nils .nils, .int .i64 1], H) ∧ ∃ v, v ∈ ls ∧ aG v = false) := by
 obtain ⟨h0, Sn⟩ : ∃ h0, h0 = H ++ [HO.box 70 [.int .i64 0, .nils, .nils], .map 0 0 [], .box 117 [.int .i64 4096, .nils, .map (H.length + 1)], .row 3 1 0 (List.replicate ls.length (.int .i64 0))] := ⟨_, rfl⟩
 have VY : BSt H h0 ls.length .nils [] (List.replicate ls.length 0) := by
  subst Sn
  refine ⟨by simp, fun i hi => by rw [List.getElem?_append_left hi], by simp, ⟨by simp [ae], by simp [ae, mD], .inl ⟨rfl, rfl⟩⟩, by simp [ae], by simp, fun r hr => by simp [rowOf] at hr⟩
 have PC := Mw 4096 (H ++ [.box 70 [.int .i64 0, .nils, .nils]])
 have hlim : Da 4096 = 4096 := by decide
 rw [hlim] at PC
 have hA0 : ∀ G, vw (H ++ G) 4 A = some (ls.map V.d) := fun G => hA _ List.take_left
 have aK : vw H 4 A = some (ls.map V.d) := hA _ List.take_length
 have d0 : ¬ (4096 : Int) < (ls.length : Int) := by omega
 have d0' : ¬ 4096 < ls.length := by omega
 have m0 : (0 : Int) ≤ (ls.length : Int) := by omega
 have m1 : (ls.length : Int) * 8 ≤ 140737488355328 := by omega
 have hW : Wc 1 (.int .i64 0) := by simp [Wc, DV.cells, DV.one]
 have yq := NM hA hb ls.length 0 .nils [] _ h0 (by omega) (by omega) VY (fun j v hj => by omega) FY (by simp) (by simp)
 rw [show ((0 : Nat) : Int) = 0 from rfl, Sn] at yq
 rcases yq with ⟨y, ex, L', vs, ids, h1, hc, hB, hN, hG, hvl, hmem⟩ | ⟨h1, v, hc, hres, hold, hv1, vL⟩
 ·left
  obtain ⟨S, T, ys, Wi, hS, hT, hU, hP⟩ := MF hB.dict (by omega) hG
  have vG : ys.length ≤ ls.length := by rw [hP.length_eq]; exact hvl
  have mS : ∀ x, x ∈ ys ↔ x ∈ ls := fun x => by rw [hP.mem_iff, hmem]
  refine ⟨S, ys, ?_, hS, hU, mS, vG, fun x hx => hG.1 x ((hmem x).2 hx)⟩
  have Dm : ∀ p ∈ ids, p < vs.length := by
   intro p hp
   obtain ⟨j, hj, rfl⟩ := List.mem_iff_getElem.1 hp
   have vT : j < ls.length := by rw [← hB.idl]; exact hj
   obtain ⟨q, q1, q2⟩ := hN j _ vT (List.getElem?_eq_getElem vT)
   rw [List.getElem?_eq_getElem hj] at q1
   injection q1 with q1
   rw [q1]; exact (List.getElem?_eq_some_iff.1 q2).1
  obtain ⟨y', uo, h2, hc2, hI⟩ := Lt (h := h1) (A := A) (S := S) (c := H.length) (r := H.length + 3) (n := ls.length) hT hB.idl hb (by simpa using Dm) ls.length 0 ids h1 (by omega) (by omega) ⟨rfl, fun _ _ => rfl, hB.idr⟩ hB.idl (fun j hj => by omega) (fun j _ => rfl)
  have hil : (ids.map fun p => (vs.map (place ys)).getD p 0) = ls.map (place ys) := by
   apply List.ext_getElem?
   intro j
   rw [List.getElem?_map, List.getElem?_map]
   by_cases cj : j < ls.length
   ·obtain ⟨q, q1, q2⟩ := hN j _ cj (List.getElem?_eq_getElem cj)
    rw [q1, List.getElem?_eq_getElem cj]
    simp [List.getD_eq_getElem?_getD, q2]
   ·rw [List.getElem?_eq_none (by rw [hB.idl]; omega), List.getElem?_eq_none (by omega)]
    rfl
  rw [hil] at hI
  have r1 := pz (n := ls.length) hI.2.2 (by simp)
  have r0 := pz hB.idr hB.idl
  have US := hB.idl
  have Sf : ∀ G, vw (h2 ++ G) 1 (.row (H.length + 3) 0 0 ls.length false) = some ((ls.map (place ys)).map iD) := fun G => pz (by rw [List.getElem?_append_left (List.getElem?_eq_some_iff.1 hI.2.2).1]; exact hI.2.2) (by simp)
  have sV := CW ys.length (by omega) h2
  have ye : wC ys.length ≤ 62 := by
   have h1 := iK (ys.length - 1) 255 (by omega)
   have h2 : wN 255 = 8 := by decide
   unfold wC; omega
  have SZ := Q0 (H := h2) Sf ye (by simp; omega) (fun p hp => by
   obtain ⟨x, hx, rfl⟩ := List.mem_map.1 hp
   have hq := (List.getElem?_eq_some_iff.1 (eG hU ((mS x).2 hx)).1).1
   exact ⟨by omega, iK _ _ (by omega)⟩)
  have Ao := hS.vw
  have Ap := hS.one
  have hres : h2[H.length]? = some (.box 70 [.int .i64 0, .nils, .nils]) := by rw [hI.2.1 _ (by omega)]; exact hB.res
  have hlen : H.length + 4 ≤ h2.length := by rw [hI.1]; exact hB.len
  have hold : ∀ i, i < H.length → h2[i]? = H[i]? := fun i hi => by rw [hI.2.1 _ (by omega)]; exact hB.old i hi
  have hA2 := hA h2 (ni (by omega) hold)
  generalize pack (ls.map (place ys)) (wC ys.length) = pk at *
  generalize wC ys.length = w at *
  have aD : fin H (h2.set H.length (.box 70 [.int .i64 ls.length, S, .list 1 (pk.map bD) false])) [eS ls.length S (.list 1 (pk.map bD) false), .int .i64 0] = _ :=
   tH (ni (by simp; omega) (fun i hi => by rw [List.getElem?_set_ne (by omega)]; exact hold i hi)) ⟨Ap, hS.sh⟩ (.inr ⟨_, _, _, rfl⟩)
  have hres2 : (h2.set H.length (.box 70 [.int .i64 ls.length, S, .list 1 (pk.map bD) false]))[H.length]? = some (.box 70 [.int .i64 ls.length, S, .list 1 (pk.map bD) false]) := List.getElem?_set_self (by omega)
  generalize gu : h2.set H.length (.box 70 [.int .i64 ls.length, S, .list 1 (pk.map bD) false]) = h3 at aD hres2
  clear hN hG hmem mS hP hU hI hB hT Dm hil Sf
  rw [show ((0 : Nat) : Int) = 0 from rfl] at hc2
  rw [Zz (X := X) _ GX _ rfl rfl]; unfold GX
  refine rn (iF @hA0 @aK @d0 @d0' @PC @m0 @m1 @hW) ?_
  refine aj ?_
  rw [hc]
  have Sw := Ao
  refine rn (cH @Wi @r0 @US) ?_
  refine aj ?_
  rw [hc2]
  rcases hS with rfl | ⟨rfl, rfl⟩
  ·clear Sw
   refine rn (fV @hA2 @Ao @sV @SZ @hres @Ap @gu) ?_
   simp only [Zn, ZW, lk, Za, List.map_cons, List.map_nil, reduceIte, Option.map_some, Nat.reduceEqDiff]
   rw [Zo, hres2]
   exact congrArg some aD
  ·clear Sw
   rw [show ((([] : List V).length : Nat) : Int) = 0 from rfl] at sV
   have Ao : ∀ g, vw g 4 .nils = some [] := fun _ => rfl
   refine rn (fV @hA2 @Ao @sV @SZ @hres @Ap @gu) ?_
   simp only [Zn, ZW, lk, Za, List.map_cons, List.map_nil, reduceIte, Option.map_some, Nat.reduceEqDiff]
   rw [Zo, hres2]
   exact congrArg some aD
 ·right
  refine ⟨?_, v, hv1, vL⟩
  have aD : fin H h1 [eS 0 .nils .nils, .int .i64 1] = _ := tH (ni (by have := (List.getElem?_eq_some_iff.1 hres).1; omega) hold) ⟨rfl, .inl rfl⟩ (.inl rfl)
  rw [Zz (X := X) _ GX _ rfl rfl]; unfold GX
  refine rn (iF @hA0 @aK @d0 @d0' @PC @m0 @m1 @hW) ?_
  refine aj ?_
  rw [hc]
  refine rn trivial ?_
  simp only [Zn, ZW, lk, Za, List.map_cons, List.map_nil, reduceIte, Option.map_some, Nat.reduceEqDiff]
  have hl : aH h1 true 3 (.ref H.length 0) = some (eS 0 .nils .nils) := by rw [Zo, hres]; rfl
  rw [hl]
  simp only [Option.map_some]
  rw [aD]
theorem Lr {H : Zb} {R : DV} {rs ys : List V} (hR : ∀ G, vw (H ++ G) 4 R = some (rs.map V.d)) (hb : rs.length ≤ 1000) (pU : ∀ x ∈ rs, Sm x) (hu : Up ys) (hp : ys.Perm rs) :
 ∀ (k i : Nat) (os : List V) (ts : List Int), rs.length - i ≤ k → i ≤ rs.length → os.length = rs.length → ts.length = rs.length → (∀ j v, j < i → rs[j]? = some v → ts[j]? = some (place ys v : Int) ∧ os[place ys v]? = some v) →
  ∃ (e' : Env) (os' : List V) (ts' : List Int), C X (.loop rQ) [(0, R), (4, .row H.length 0 0 rs.length false), (5, .row (H.length + 1) 0 0 rs.length false), (6, .int .i64 i)] (hq H os ts) = some (.exit 0, e', hq H os' ts') ∧ lk e' 4 = .row H.length 0 0 rs.length false ∧ lk e' 5 = .row (H.length + 1) 0 0 rs.length false ∧
   os'.length = rs.length ∧ ts'.length = rs.length ∧ (∀ (j : Nat) (v : V), rs[j]? = some v → ts'[j]? = some (place ys v : Int) ∧ os'[place ys v]? = some v) := by
 have O0 : ∀ os ts, vw (hq H os ts) 4 R = some (rs.map V.d) := fun os ts => hR _
 have VM : ∀ os ts G, vw (hq H os ts ++ G) 4 R = some (rs.map V.d) := fun os ts G => by rw [hq, List.append_assoc]; exact hR _
 intro k
 induction k with
 | zero =>
  intro i os ts hk hi ho ht hI
  obtain rfl : i = rs.length := by omega
  rw [Zc]
  unfold rQ
  refine rn @O0 ?_
  rw [Zw]
  exact ⟨_, _, _, rfl, by simp [Za, lk], by simp [Za, lk], ho, ht, fun j v hj => hI j v (List.getElem?_eq_some_iff.1 hj).1 hj⟩
 | succ k ih =>
  intro i os ts hk hi ho ht hI
  by_cases w0 : i < rs.length
  ·obtain ⟨I, cA⟩ : ∃ I, I = i + 1 := ⟨_, rfl⟩
   have w1 : IntKind.i64.wrap ((i : Int) + 1) = (I : Int) := wr
   obtain ⟨v, hv⟩ : ∃ v, v = rs[i] := ⟨_, rfl⟩
   have ef : rs[i]? = some v := by rw [hv]; exact List.getElem?_eq_getElem w0
   have hmem : v ∈ ys := hp.mem_iff.2 (List.mem_of_getElem? ef)
   obtain ⟨p, hp'⟩ : ∃ p, p = place ys v := ⟨_, rfl⟩
   have hpl := (eG hu hmem).1
   have Kv : p < rs.length := by rw [hp', ← hp.length_eq]; exact (List.getElem?_eq_some_iff.1 hpl).1
   have OQ : (rs.countP fun x => decide (ord x v < 0)) = p := by rw [hp', Bu hu v]; exact (hp.countP_eq _).symm
   have iJ := fun os ts => Mr (h := hq H os ts) (A := R) (xs := rs) v (fun G => VM os ts G) (by omega) pU (pU v (List.mem_of_getElem? ef))
   rw [OQ] at iJ
   have hs : C X rQ [(0, R), (4, .row H.length 0 0 rs.length false), (5, .row (H.length + 1) 0 0 rs.length false), (6, .int .i64 i)] (hq H os ts) = some (.norm, [(0, R), (4, .row H.length 0 0 rs.length false), (5, .row (H.length + 1) 0 0 rs.length false), (6, .int .i64 I)], hq H (os.set p v) (ts.set i p)) := by
    have a1 := zZ (H := H) (os := os) (n := rs.length) ht
    have a2 := Om (H := H) (os := os) (n := rs.length) ht w0 (p : Int)
    have a3 := zZ (H := H) (os := os) (ts := ts.set i p) (n := rs.length) (by simpa using ht)
    have a4 := Ot (H := H) (os := os) (n := rs.length) ht w0 (p : Int)
    have a5 := Oo (H := H) (os := os) (ts := ts.set i p) (n := rs.length) ho
    have a6 := Ol (H := H) (os := os) (ts := ts.set i p) (n := rs.length) ho Kv v
    have a7 : ∀ os ts, aH (hq H os ts) true 4 (.elem R 4 i 0) = some v.d := fun os ts => by
     rw [aH, O0 os ts]; simp [ef, ax, DV.cells]
    unfold rQ
    refine rn (mC @w0 @w1 @O0 @a7 @iJ @a1 @a2 @a3 @a4 @a5 @a6 @ht @ho @Kv) ?_
    simp [Za, lk]
   rw [Zc, hs, ZB]
   refine ih I _ _ (by omega) (by omega) (by simpa using ho) (by simpa using ht) (fun j u hj mG => ?_)
   by_cases hji : j = i
   ·subst hji
    rw [ef] at mG
    injection mG with mG
    subst mG
    rw [← hp', List.getElem?_set_self (by omega), List.getElem?_set_self (by omega)]
    exact ⟨rfl, rfl⟩
   ·obtain ⟨h1, h2⟩ := hI j u (by omega) mG
    refine ⟨by rw [List.getElem?_set_ne (Ne.symm hji)]; exact h1, ?_⟩
    by_cases j3 : p = place ys u
    ·have hmu : u ∈ ys := hp.mem_iff.2 (List.mem_of_getElem? mG)
     have e := (eG hu hmu).1
     rw [← j3, hp', hpl] at e
     injection e with e
     subst e
     rw [← j3, List.getElem?_set_self (by omega)]
    ·rw [List.getElem?_set_ne j3]; exact h2
  ·exact ih i os ts (by omega) hi ho ht hI
theorem Mv {H : Zb} {R : DV} {rs ys : List V} (hR : ∀ G, vw (H ++ G) 4 R = some (rs.map V.d)) (hb : rs.length ≤ 1000) (pU : ∀ x ∈ rs, Sm x) (hu : Up ys) (hp : ys.Perm rs) :
 E X 63 [R] H = some (.tup [.list 4 (ys.map V.d) false, .list 1 (toS ys rs) false], H) := by
 obtain ⟨e', os, ts, c1, c2, c3, c4, c5, c6⟩ := Lr (H := H) hR hb pU hu hp rs.length 0 (List.replicate rs.length V0) (List.replicate rs.length 0) (by omega) (by omega) (by simp) (by simp) (fun j v hj => by omega)
 have VN : vw H 4 R = some (rs.map V.d) := by have := hR []; rwa [List.append_nil] at this
 have hos : os = ys := by
  apply List.ext_getElem?
  intro p
  cases hx : ys[p]? with
  | none =>
   have := List.getElem?_eq_none_iff.1 hx
   exact List.getElem?_eq_none (by rw [c4, ← hp.length_eq]; exact this)
  | some x =>
   have hm : x ∈ rs := hp.mem_iff.1 (List.mem_of_getElem? hx)
   obtain ⟨j, hj, hj2⟩ := List.mem_iff_getElem.1 hm
   have := (c6 j x (by rw [List.getElem?_eq_getElem hj, hj2])).2
   rw [yU hu hx] at this
   exact this
 have hts : ts.map (DV.int .i64) = toS ys rs := by
  apply List.ext_getElem?
  intro j
  cases hx : rs[j]? with
  | none =>
   have := List.getElem?_eq_none_iff.1 hx
   rw [List.getElem?_eq_none (by simp; omega), List.getElem?_eq_none (by simp [toS]; omega)]
  | some x =>
   rw [List.getElem?_map, (c6 j x hx).1]
   simp [toS, hx]
 have Vj : H ++ [HO.row 56 4 0 (List.replicate rs.length (.agg [.int .i64 0, .int .i64 0, .str ⟨#[]⟩, .bool false])), .row 3 1 0 (List.replicate rs.length (.int .i64 0))] = hq H (List.replicate rs.length V0) (List.replicate rs.length 0) := by
  simp [hq, V0]
 have z1 : Wc 4 (.agg [.int .i64 0, .int .i64 0, .str ⟨#[]⟩, .bool false]) := by simp [Wc, DV.cells, DV.one]
 have z2 : Wc 1 (.int .i64 0) := by simp [Wc, DV.cells, DV.one]
 have z3 : (rs.length : Int) * 40 ≤ 140737488355328 := by omega
 have z4 : (rs.length : Int) * 8 ≤ 140737488355328 := by omega
 have c7 := Pm (H := H) c4 c5
 rw [hts, hos] at c7
 rw [show ((0 : Nat) : Int) = 0 from rfl, hos] at c1
 rw [Zz (X := X) _ Qe _ rfl rfl]; unfold Qe
 refine rn (fV @VN @hR @z1 @z2 @z3 @z4 @Vj) ?_
 refine aj ?_
 rw [c1]
 refine rn (aL @c2 @c3) ?_
 simp only [Zn, ZW, Za, List.map_cons, List.map_nil, lk, reduceIte, Nat.reduceEqDiff, Option.map_some]
 rw [c7]
def fE (H h : Zb) (d : DV) (vs : List V) : Prop :=
 h.take H.length = H ∧ ((d = .nils ∧ vs = []) ∨ ∃ g o, d = .row o g 0 vs.length false ∧ H.length ≤ o ∧ h[o]? = some (.row 56 4 g (vs.map V.d)))
section
variable {H h : Zb} {d : DV} {vs : List V}
theorem fE.zero : fE H H .nils [] := ⟨List.take_length, .inl ⟨rfl, rfl⟩⟩
theorem fE.ext (hg : fE H h d vs) (G : Zb) : fE H (h ++ G) d vs := by
 obtain ⟨ht, hr⟩ := hg
 refine ⟨?_, ?_⟩
 ·rw [List.take_append_of_le_length (iN ht)]; exact ht
 ·rcases hr with hr | ⟨g, o, h1, h2, h3⟩
  ·exact .inl hr
  ·exact .inr ⟨g, o, h1, h2, by rw [List.getElem?_append_left (List.getElem?_eq_some_iff.1 h3).1]; exact h3⟩
theorem fE.vw (hg : fE H h d vs) (G : Zb) : vw (h ++ G) 4 d = some (vs.map V.d) := by
 rcases (hg.ext G).2 with ⟨rfl, rfl⟩ | ⟨g, o, rfl, h2, h3⟩
 ·rfl
 ·simp [Go.Proofs.YtmbgfbomgbdjeaaGreatDoor.vw, h3, List.take_of_length_le]
theorem fE.vw0 (hg : fE H h d vs) : Go.Proofs.YtmbgfbomgbdjeaaGreatDoor.vw h 4 d = some (vs.map V.d) := by
 have := hg.vw []; rwa [List.append_nil] at this
theorem fE.app (hg : fE H h d vs) (v : V) (hb : vs.length ≤ 1000000) : ∃ d' h', aW h 56 4 40 d (vs.map V.d) [v.d] = some (d', h') ∧ fE H h' d' (vs ++ [v]) := by
 have hle : ((vs.map V.d).length + [v.d].length) * 40 ≤ 140737488355328 := by simp; omega
 have hne : [v.d] ≠ [] := by simp
 obtain ⟨ht, hr⟩ := hg
 rcases hr with ⟨rfl, rfl⟩ | ⟨g, o, rfl, h2, h3⟩
 ·refine ⟨.row h.length 0 0 1 false, h ++ [.row 56 4 0 [v.d]], ?_, ?_, .inr ⟨0, h.length, by simp, iN ht, by simp⟩⟩
  ·simp only [aW, if_neg hne]
   rw [if_pos hle]
   rfl
  ·rw [List.take_append_of_le_length (iN ht)]; exact ht
 ·have hlt := (List.getElem?_eq_some_iff.1 h3).1
  refine ⟨.row o (g + 1) 0 (vs.length + 1) false, h.set o (.row 56 4 (g + 1) (vs.map V.d ++ [v.d])), ?_, ?_, .inr ⟨g + 1, o, by simp, h2, ?_⟩⟩
  ·simp only [aW, if_neg hne, h3]
   rw [if_pos hle]
   simp
  ·rw [List.take_set_of_le h2]; exact ht
  ·rw [List.getElem?_set_self hlt]; simp
end
theorem oJ {H h : Zb} (ht : h.take H.length = H) {i : Nat} (hi : i < H.length) : h[i]? = H[i]? := by
 have : (h.take H.length)[i]? = h[i]? := List.getElem?_take_of_lt hi
 rw [← this, ht]
theorem IZ (v : V) (vs : List V) : (dR v vs 0 = none ∧ v ∉ vs) ∨ ∃ j : Nat, dR v vs 0 = some j ∧ v ∈ vs := by
 cases hf : dR v vs 0 with
 | none => exact .inl ⟨rfl, kg hf⟩
 | some j =>
  obtain ⟨_, _, h3⟩ := qb v vs 0 j hf
  exact .inr ⟨j, rfl, List.mem_of_getElem? h3⟩
theorem fE.pre {H H1 h : Zb} {d : DV} {vs : List V} (hB : fE H1 h d vs) {x : HO} (aF : H1 = H ++ [x]) : h.take H.length = H := by
 have h1 : h.take H.length = (h.take H1.length).take H.length := by rw [List.take_take, Nat.min_eq_left (by rw [aF]; simp)]
 rw [h1, hB.1, aF]
 exact List.take_left
theorem NL {H H1 : Zb} {A : DV} {ls : List V} (hA : ∀ g : Zb, g.take H.length = H → vw g 4 A = some (ls.map V.d)) (hb : ls.length ≤ 200) (aF : H1 = H ++ [.box 70 [.int .i64 0, .nils, .nils]]) :
 ∀ (k i : Nat) (o : DV) (vs : List V) (h : Zb), ls.length - i ≤ k → i ≤ ls.length → fE H1 h o vs → Gd vs → vs.length ≤ i → (∀ x, x ∈ vs ↔ x ∈ ls.take i) →
  (∃ y ex o' vs' h', C X (.loop jd) [(0, A), (2, .ref H.length 0), (4, o), (5, .int .i64 i)] h = some (.exit 0, (0, A) :: (2, .ref H.length 0) :: (4, o') :: (5, y) :: ex, h') ∧ fE H1 h' o' vs' ∧ Gd vs' ∧ vs'.length ≤ ls.length ∧ (∀ x, x ∈ vs' ↔ x ∈ ls)) ∨
  (∃ h' v, C X (.loop jd) [(0, A), (2, .ref H.length 0), (4, o), (5, .int .i64 i)] h = some (.ret, [(2, .ref H.length 0), (3, .int .i64 1)], h') ∧
   h'[H.length]? = some (.box 70 [.int .i64 0, .nils, .nils]) ∧ (∀ i, i < H.length → h'[i]? = H[i]?) ∧ v ∈ ls ∧ aG v = false) := by
 intro k
 induction k with
 | zero =>
  intro i o vs h hk hi hB hG hl hm
  obtain rfl : i = ls.length := by omega
  rw [List.take_length] at hm
  refine .inl ⟨.int .i64 ls.length, [(20, .bool false)], o, vs, h, ?_, hB, hG, hl, hm⟩
  rw [Zc]
  unfold jd
  have fu := hA h (hB.pre aF)
  refine rn @fu ?_
  rw [Zw]
  simp [Za, lk]
 | succ k ih =>
  intro i o vs h hk hi hB hG hl hm
  by_cases c : i < ls.length
  ·obtain ⟨I, hI⟩ : ∃ I, I = i + 1 := ⟨_, rfl⟩
   have z1 : IntKind.i64.wrap ((i : Int) + 1) = (I : Int) := wr
   obtain ⟨v, hv⟩ : ∃ v, v = ls[i] := ⟨_, rfl⟩
   have ef : ls[i]? = some v := by rw [hv]; exact List.getElem?_eq_getElem c
   have hv' := hv.symm
   have Gb := J3 v
   have fu := hA h (hB.pre aF)
   have Fp : ∀ x, x ∈ ls.take I ↔ x ∈ ls.take i ∨ x = v := by
    intro x
    rw [hI, ← List.take_append_getElem c, List.mem_append, hv']
    simp
   cases kJ : aG v
   ·rw [kJ] at Gb
    have hlt : H.length < H1.length := by rw [aF]; simp
    have r0 : h[H.length]? = some (.box 70 [.int .i64 0, .nils, .nils]) := by rw [oJ hB.1 hlt, aF]; simp
    refine .inr ⟨h.set H.length (.box 70 [.int .i64 0, .nils, .nils]), v, ?_, ?_, fun j hj => ?_, List.mem_of_getElem? ef, kJ⟩
    ·have hs : C X jd [(0, A), (2, .ref H.length 0), (4, o), (5, .int .i64 i)] h = some (.ret, [(2, .ref H.length 0), (3, .int .i64 1)], h.set H.length (.box 70 [.int .i64 0, .nils, .nils])) := by
      clear ih hB hG hm hA kJ hv Fp aF
      obtain ⟨vk, vn, vs', vt⟩ := v
      simp only [V.d, DV.cells] at *
      unfold jd
      refine ah (gJ @c @fu @hv' @ef @Gb @r0) ?_
      simp [Za, lk]
     rw [Zc, hs, aR]
    ·rw [List.getElem?_set_self (List.getElem?_eq_some_iff.1 r0).1]
    ·rw [List.getElem?_set_ne (by omega), oJ hB.1 (by omega), aF, List.getElem?_append_left hj]
   ·rw [kJ] at Gb
    have qf := J1 (h := h) (A := o) v hB.vw (by omega)
    have vK := hB.vw0
    rcases IZ v vs with ⟨hf, hnm⟩ | ⟨j, hf, Sj⟩
    ·rw [hf] at qf
     have qf : E X 62 [o, v.d] h = some (.int .i64 (-1), h) := qf
     obtain ⟨o2, h2, ha, gH⟩ := hB.app v (by omega)
     have ei : Gd (vs ++ [v]) := by
      refine ⟨fun x hx => ?_, ?_⟩
      ·rcases List.mem_append.1 hx with hx | hx
       ·exact hG.1 x hx
       ·simp at hx; rw [hx]; exact kJ
      ·rw [List.pairwise_append]
       refine ⟨hG.2, List.pairwise_singleton _ _, fun a hma b hb => ?_⟩
       simp at hb
       subst hb
       rintro rfl
       exact hnm hma
     have eY := ih I o2 (vs ++ [v]) h2 (by omega) (by omega) gH ei (by simp; omega) (fun x => by rw [Fp, List.mem_append, hm]; simp)
     have hs : C X jd [(0, A), (2, .ref H.length 0), (4, o), (5, .int .i64 i)] h = some (.norm, [(0, A), (2, .ref H.length 0), (4, o2), (5, .int .i64 I)], h2) := by
      have y1 : ∀ k n s t h, bL [.agg [.int .i64 k, .int .i64 n, .str s, .bool t]] h = some ([.agg [.int .i64 k, .int .i64 n, .str s, .bool t]], h) := fun _ _ _ _ _ => rfl
      have y2 : ∀ k n s t, Wc 4 (.agg [.int .i64 k, .int .i64 n, .str s, .bool t]) := fun k n s t => by simp [Wc, DV.cells, DV.one]
      have y3 : ∀ k n s t, Nr (.agg [.int .i64 k, .int .i64 n, .str s, .bool t]) := fun k n s t => (V.mk k n s t).nr
      have y4 : ∀ d h, aM h 4 (.list 4 [d] true) = some [d] := fun _ _ => rfl
      clear ih eY hB gH hG ei hm hA kJ hv Fp aF hf hnm
      obtain ⟨vk, vn, vs', vt⟩ := v
      simp only [V.d, DV.cells] at *
      unfold jd
      refine ah (jD @c @z1 @fu @hv' @ef @Gb @qf @vK @ha @y1 @y2 @y3 @y4) ?_
      simp [Za, lk]
     rw [Zc, hs, ZB]
     exact eY
    ·rw [hf] at qf
     have qf : E X 62 [o, v.d] h = some (.int .i64 j, h) := qf
     have eY := ih I o vs h (by omega) (by omega) hB hG (by omega) (fun x => by
      rw [Fp, ← hm]
      constructor
      ·exact .inl
      ·rintro (h | rfl)
       ·exact h
       ·exact Sj)
     have d0 : ¬ (j : Int) < 0 := by omega
     have hs : C X jd [(0, A), (2, .ref H.length 0), (4, o), (5, .int .i64 i)] h = some (.norm, [(0, A), (2, .ref H.length 0), (4, o), (5, .int .i64 I)], h) := by
      clear ih eY hB hG hm hA kJ hv Fp aF hf Sj
      obtain ⟨vk, vn, vs', vt⟩ := v
      simp only [V.d, DV.cells] at *
      unfold jd
      refine ah (gI @c @z1 @fu @hv' @ef @Gb @qf @vK @d0) ?_
      simp [Za, lk]
     rw [Zc, hs, ZB]
     exact eY
  ·exact ih i o vs h (by omega) hi hB hG (by omega) hm
theorem QA {ys : List V} (hU : Up ys) (hm : ∀ x ∈ ys, aG x = true) : Gd ys := by
 refine ⟨hm, hU.imp ?_⟩
 rintro a b h rfl
 exact gB a h
theorem Hq {H h g : Zb} (h1 : g.take h.length = h) (h2 : h.take H.length = H) : g.take H.length = H := by
 have hl : H.length ≤ h.length := by have := congrArg List.length h2; rw [List.length_take] at this; omega
 have h3 : g.take H.length = (g.take h.length).take H.length := by rw [List.take_take, Nat.min_eq_left hl]
 rw [h3, h1, h2]
theorem Ls {Hs : Zb} {A S : DV} {c : Nat} {ls ys : List V} (hA : ∀ g : Zb, g.take Hs.length = Hs → vw g 4 A = some (ls.map V.d)) (hb : ls.length ≤ 200) (hS : ∀ g, vw g 4 S = some (ys.map V.d)) (qQ : ys.length ≤ 1000) (hU : Up ys) (hG : Gd ys) (hm : ∀ x ∈ ls, x ∈ ys) :
 ∀ (k i : Nat) (o : DV) (h : Zb), ls.length - i ≤ k → i ≤ ls.length → Grow 3 iD Hs h o ((ls.take i).map (place ys)) →
  ∃ y ex o' h', C X (.loop rU) [(0, A), (2, .ref c 0), (7, S), (9, o), (10, .int .i64 i)] h = some (.exit 2, (0, A) :: (2, .ref c 0) :: (7, S) :: (9, o') :: (10, y) :: ex, h') ∧ Grow 3 iD Hs h' o' (ls.map (place ys)) := by
 intro k
 induction k with
 | zero =>
  intro i o h hk hi hB
  obtain rfl : i = ls.length := by omega
  rw [List.take_length] at hB
  refine ⟨.int .i64 ls.length, [(53, .bool false)], o, h, ?_, hB⟩
  rw [Zc]
  unfold rU
  have fu := hA h hB.1
  refine rn @fu ?_
  rw [Zw]
  simp [Za, lk]
 | succ k ih =>
  intro i o h hk hi hB
  by_cases cc : i < ls.length
  ·obtain ⟨I, hI⟩ : ∃ I, I = i + 1 := ⟨_, rfl⟩
   have z1 : IntKind.i64.wrap ((i : Int) + 1) = (I : Int) := wr
   obtain ⟨v, hv⟩ : ∃ v, v = ls[i] := ⟨_, rfl⟩
   have ef : ls[i]? = some v := by rw [hv]; exact List.getElem?_eq_getElem cc
   have hv' := hv.symm
   have fu := hA h hB.1
   have qf := J1 (h := h) (A := S) v (fun l => hS _) (by omega)
   rw [Ph hG (eG hU (hm v (List.mem_of_getElem? ef))).1] at qf
   have qf : E X 62 [S, v.d] h = some (.int .i64 (place ys v : Nat), h) := qf
   obtain ⟨o2, h2, ha, gH⟩ := hB.app 8 [place ys v] (by simp; omega)
   have ht : (ls.take i).map (place ys) ++ [place ys v] = (ls.take I).map (place ys) := by
    rw [hI, ← List.take_append_getElem cc, List.map_append, hv']
    rfl
   rw [ht] at gH
   obtain ⟨y, ex, o', h', hc, Cj⟩ := ih I o2 h2 (by omega) (by omega) gH
   refine ⟨y, ex, o', h', ?_, Cj⟩
   have vK := hB.vw0
   have hs : C X rU [(0, A), (2, .ref c 0), (7, S), (9, o), (10, .int .i64 i)] h = some (.norm, [(0, A), (2, .ref c 0), (7, S), (9, o2), (10, .int .i64 I)], h2) := by
    have y1 : ∀ (a : Int) h, bL [.int .i64 a] h = some ([.int .i64 a], h) := fun _ _ => rfl
    have y2 : ∀ a, Wc 1 (.int .i64 a) := fun a => by simp [Wc, DV.cells, DV.one]
    have y3 : ∀ a, Nr (.int .i64 a) := fun a => .int _ _
    have y4 : ∀ (a : Int) h, aM h 1 (.list 1 [.int .i64 a] true) = some [.int .i64 a] := fun _ _ => rfl
    have ha : aW h 3 1 8 o (((ls.take i).map (place ys)).map iD) [.int .i64 (place ys v : Nat)] = some (o2, h2) := ha
    clear ih hc hB gH Cj hG hm hA hS hv hU ht
    generalize (ls.take i).map (place ys) = cur at *
    generalize place ys v = pv at *
    obtain ⟨vk, vn, vs', vt⟩ := v
    simp only [V.d, DV.cells] at *
    unfold rU
    refine ah (iG @cc @z1 @fu @hv' @ef @qf @vK @ha @y1 @y2 @y3 @y4) ?_
    simp [Za, lk]
   rw [Zc, hs, ZB]
   exact hc
  ·exact ih i o h (by omega) hi hB
theorem bV.sh {R : DV} {bs : List Nat} (h : bV R bs) : R = .nils ∨ ∃ s l c, R = .list s l c := by
 rcases h with ⟨rfl, _⟩ | rfl
 ·exact .inl rfl
 ·exact .inr ⟨_, _, _, rfl⟩
set_option maxHeartbeats 1000000 in
theorem My {H : Zb} {A : DV} {ls : List V} (hA : ∀ g : Zb, g.take H.length = H → vw g 4 A = some (ls.map V.d)) (hb : ls.length ≤ 200) (pU : ∀ x ∈ ls, Sm x) :
 (∃ ys R, E X 38 [A] H = some (.tup [eS ls.length (.list 4 (ys.map V.d) false) R, .int .i64 0], H) ∧ bV R (pack (ls.map (place ys)) (wC ys.length)) ∧ Up ys ∧ (∀ x, x ∈ ys ↔ x ∈ ls) ∧ ∀ x ∈ ls, aG x = true) ∨
 (E X 38 [A] H = some (.tup [eS 0 .nils .nils, .int .i64 1], H) ∧ ∃ v, v ∈ ls ∧ aG v = false) := by
 have hA0 : ∀ G, vw (H ++ G) 4 A = some (ls.map V.d) := fun G => hA _ List.take_left
 have aK : vw H 4 A = some (ls.map V.d) := hA _ List.take_length
 have d0 : ¬ (4096 : Int) < (ls.length : Int) := by omega
 have d0' : ¬ 4096 < ls.length := by omega
 have yq := NL hA hb (H := H) rfl ls.length 0 .nils [] _ (by omega) (by omega) fE.zero FY (by simp) (by simp)
 rw [show ((0 : Nat) : Int) = 0 from rfl] at yq
 rcases yq with ⟨y, ex, o, vs, h1, hc, hB, hG, hvl, hmem⟩ | ⟨h1, v, hc, hres, hold, hv1, vL⟩
 ·left
  obtain ⟨ys, hys⟩ : ∃ ys, ys = (Go.Sort.sort lt vs.toArray).toList := ⟨_, rfl⟩
  have hU : Up ys := by rw [hys]; exact BM hG
  have hP : ys.Perm vs := by rw [hys]; exact oK vs
  have vG : ys.length ≤ ls.length := by rw [hP.length_eq]; exact hvl
  have mS : ∀ x, x ∈ ys ↔ x ∈ ls := fun x => by rw [hP.mem_iff, hmem]
  have hmay : ∀ x ∈ ls, aG x = true := fun x hx => hG.1 x ((hmem x).2 hx)
  have Wh := Mv (H := h1) (R := o) (rs := vs) (ys := ys) hB.vw (by omega) (fun x hx => pU x ((hmem x).1 hx)) hU hP
  obtain ⟨y', uo, o', h2, hc2, gH⟩ := Ls (Hs := h1) (A := A) (S := .list 4 (ys.map V.d) false) (c := H.length) (fun g hg => hA g (Hq hg (hB.pre rfl))) hb (fun _ => rfl) (by omega) hU (QA hU (fun x hx => hmay x ((mS x).1 hx))) (fun x hx => (mS x).2 hx) ls.length 0 .nils h1 (by omega) (by omega) Grow.zero
  have ye : wC ys.length ≤ 62 := by
   have h1 := iK (ys.length - 1) 255 (by omega)
   have h2 : wN 255 = 8 := by decide
   unfold wC; omega
  have SX := QY ys.length (by omega) h2
  obtain ⟨R, SY, hR⟩ := QZ (H := h2) (L := o') (l := ls.map (place ys)) (w := wC ys.length) (fun h' ht => (gH.keep ht).vw0) ye (by simp; omega) (fun p hp => by
   obtain ⟨x, hx, rfl⟩ := List.mem_map.1 hp
   have hq := (List.getElem?_eq_some_iff.1 (eG hU ((mS x).2 hx)).1).1
   exact ⟨by omega, iK _ _ (by omega)⟩)
  refine ⟨ys, R, ?_, hR, hU, mS, hmay⟩
  have t1 := iN hB.1
  have t2 := iN gH.1
  have aF : ∀ i, i < H.length + 1 → h2[i]? = (H ++ [HO.box 70 [.int .i64 0, .nils, .nils]])[i]? := fun i hi => by
   rw [oJ gH.1 (by simp at t1; omega), oJ hB.1 (by simpa using hi)]
  have hres : h2[H.length]? = some (.box 70 [.int .i64 0, .nils, .nils]) := by rw [aF _ (by omega)]; simp
  have hold : ∀ i, i < H.length → h2[i]? = H[i]? := fun i hi => by rw [aF _ (by omega), List.getElem?_append_left hi]
  have hlen : H.length < h2.length := (List.getElem?_eq_some_iff.1 hres).1
  have VK := hR.sh
  have hA2 := hA h2 (ni (by omega) hold)
  generalize pack (ls.map (place ys)) (wC ys.length) = pk at *
  generalize wC ys.length = w at *
  have aD : fin H (h2.set H.length (.box 70 [.int .i64 ls.length, .list 4 (ys.map V.d) false, R])) [eS ls.length (.list 4 (ys.map V.d) false) R, .int .i64 0] = _ :=
   tH (ni (by simp; omega) (fun i hi => by rw [List.getElem?_set_ne (by omega)]; exact hold i hi)) ⟨rfl, .inr ⟨_, _, _, rfl⟩⟩ VK
  have hres2 : (h2.set H.length (.box 70 [.int .i64 ls.length, .list 4 (ys.map V.d) false, R]))[H.length]? = some (.box 70 [.int .i64 ls.length, .list 4 (ys.map V.d) false, R]) := List.getElem?_set_self hlen
  generalize gu : h2.set H.length (.box 70 [.int .i64 ls.length, .list 4 (ys.map V.d) false, R]) = h3 at aD hres2
  have Ao : ∀ g, vw g 4 (.list 4 (ys.map V.d) false) = some (ys.map V.d) := fun _ => rfl
  rw [show ((0 : Nat) : Int) = 0 from rfl] at hc2
  clear hG hmem mS hP hU hB gH aF hmay pU
  rw [Zz (X := X) _ GV _ rfl rfl]; unfold GV
  refine rn (cP @hA0 @aK @d0 @d0') ?_
  refine aj ?_
  rw [hc]
  refine rn @Wh ?_
  refine aj ?_
  rw [hc2]
  rcases hR with ⟨rfl, _⟩ | rfl
  ·refine rn (gJ @hA2 @Ao @SX @SY @hres @gu) ?_
   simp only [Zn, ZW, lk, Za, List.map_cons, List.map_nil, reduceIte, Option.map_some, Nat.reduceEqDiff]
   rw [Zo, hres2]
   exact congrArg some aD
  ·refine rn (gJ @hA2 @Ao @SX @SY @hres @gu) ?_
   simp only [Zn, ZW, lk, Za, List.map_cons, List.map_nil, reduceIte, Option.map_some, Nat.reduceEqDiff]
   rw [Zo, hres2]
   exact congrArg some aD
 ·right
  refine ⟨?_, v, hv1, vL⟩
  have aD : fin H h1 [eS 0 .nils .nils, .int .i64 1] = _ := tH (ni (by have := (List.getElem?_eq_some_iff.1 hres).1; omega) hold) ⟨rfl, .inl rfl⟩ (.inl rfl)
  rw [Zz (X := X) _ GV _ rfl rfl]; unfold GV
  refine rn (cP @hA0 @aK @d0 @d0') ?_
  refine aj ?_
  rw [hc]
  refine rn trivial ?_
  simp only [Zn, ZW, lk, Za, List.map_cons, List.map_nil, reduceIte, Option.map_some, Nat.reduceEqDiff]
  have hl : aH h1 true 3 (.ref H.length 0) = some (eS 0 .nils .nils) := by rw [Zo, hres]; rfl
  rw [hl]
  simp only [Option.map_some]
  rw [aD]
theorem NA {h : Zb} {A B : DV} {bs : List Nat} (hA : vw h 1 A = some (bs.map bD)) (hB : vw h 1 B = some (bs.map bD)) (hb : bs.length ≤ 1000000) :
 ∀ (k i : Nat), bs.length - i ≤ k → i ≤ bs.length → ∃ e', C X (.loop rM) [(0, A), (1, B), (5, .int .i64 i)] h = some (.exit 0, e', h) := by
 intro k
 induction k with
 | zero =>
  intro i hk hi
  obtain rfl : i = bs.length := by omega
  refine ⟨[(0, A), (1, B), (5, .int .i64 bs.length), (14, .bool false)], ?_⟩
  rw [Zc]
  unfold rM
  refine rn @hA ?_
  rw [Zw]
  simp [Za, lk]
 | succ k ih =>
  intro i hk hi
  by_cases c : i < bs.length
  ·obtain ⟨I, hI⟩ : ∃ I, I = i + 1 := ⟨_, rfl⟩
   have z1 : IntKind.i64.wrap ((i : Int) + 1) = (I : Int) := wr
   obtain ⟨x, hx⟩ : ∃ x, x = bs[i] := ⟨_, rfl⟩
   have hx' := hx.symm
   have hs : C X rM [(0, A), (1, B), (5, .int .i64 i)] h = some (.norm, [(0, A), (1, B), (5, .int .i64 I)], h) := by
    clear ih
    unfold rM
    refine ah (ej @c @z1 @hA @hB @hx') ?_
    simp [Za, lk]
   rw [Zc, hs, ZB]
   exact ih I (by omega) (by omega)
  ·exact ih i (by omega) hi
theorem QX {h : Zb} {A B : DV} {bs : List Nat} (hA : vw h 1 A = some (bs.map bD)) (hB : vw h 1 B = some (bs.map bD)) (hb : bs.length ≤ 1000000) : E X 66 [A, B] h = some (.bool true, h) := by
 obtain ⟨e', hc⟩ := NA hA hB hb bs.length 0 (by omega) (by omega)
 rw [show ((0 : Nat) : Int) = 0 from rfl] at hc
 rw [Zz (X := X) _ Qc _ rfl rfl]; unfold Qc
 refine rn (aL @hA @hB) ?_
 refine aj ?_
 rw [hc]
 refine rn trivial ?_
 exact re trivial
theorem Ri {h : Zb} {n : Int} {D1 D2 B1 B2 : DV} {ys : List V} {bs : List Nat} (h1 : ∀ g, vw g 4 D1 = some (ys.map V.d)) (h2 : ∀ g, vw g 4 D2 = some (ys.map V.d)) (h3 : ∀ g, vw g 1 B1 = some (bs.map bD)) (h4 : ∀ g, vw g 1 B2 = some (bs.map bD)) (hy : ys.length ≤ 1000000) (hb : bs.length ≤ 1000000) :
 E X 39 [eS n D1 B1, eS n D2 B2] h = some (.bool true, h) := by
 have fI := fun g => MC (h := g) (h1 g) (h2 g) hy
 have wE := fun g => QX (h := g) (h3 g) (h4 g) hb
 rw [Zz (X := X) _ Qj _ rfl rfl]; unfold Qj; exact rg (aL @fI @wE)
end Go.Proofs.YtmbgfbomgbdjeaaGreatDoor
