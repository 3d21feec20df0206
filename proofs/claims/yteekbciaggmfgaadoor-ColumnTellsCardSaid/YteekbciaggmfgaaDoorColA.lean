/- Ideal runs. -/
import Derived.Test.YteekbciaggmfgaaDoorStep
import Derived.Test.YteekbciaggmfgaaDoorPackP
import Derived.Test.YteekbciaggmfgaaDoorPlainQ
namespace Go.Proofs.YteekbciaggmfgaaDoor
attribute [local go_sem] ZF Zy ZA ZB Zp Zf Zm Zi Zk Zc Zd Zj Zq Zr ZC Zo Zg Zz Zu Zt ZR Zv Yj put lk Od.v Za Ze Zl Yv Yb Ya Yd ai Yt DV.isU DV.cells ae ZJ ZX ZK Zn splice ZM af ZT Ys bz bR bL bf bP bu aZ bn bN bg bQ bj bq bh bU bV bK aQ aR
attribute [local go_sem ↓] Zh
set_option linter.unusedVariables false
set_option linter.unusedSimpArgs false
set_option maxRecDepth 10000
theorem uL {h : Zb} {r g t n : Nat} {xs : List Nat} (h1 : h[r]? = some (.row t 1 g (xs.map iD))) (hn : xs.length = n) {i : Nat} (hi : i < n) (x : Nat) : stx h 1 (.elem (.row r g 0 n false) 1 i 0) (.int .i64 x) = some (h.set r (.row t 1 g ((xs.set i x).map iD))) := by
 subst hn
 have h2 : (xs.map iD)[i]? = some (iD xs[i]) := by simp [List.getElem?_eq_getElem hi]
 rw [stx, if_pos (by simp [DV.cells, DV.one])]
 simp only [h1]
 rw [if_pos (by simp [hi])]
 simp only [Nat.zero_add, h2]
 simp [mW, DV.one]
theorem lB {h : Zb} {r g t n : Nat} {xs : List Nat} (h1 : h[r]? = some (.row t 1 g (xs.map iD))) (hn : xs.length = n) : vw h 1 (.row r g 0 n false) = some (xs.map iD) := by
 subst hn; simp [vw, h1, List.take_of_length_le]
theorem Cm {Yu : Int} {vs : List V} (v : V) (hl : (vs.length : Int) < Yu) (x : V) : x ∈ (dP Yu vs v).2.2 ↔ x ∈ vs ∨ (x = v ∧ aG v = true) := by
 unfold dP
 cases hm : aG v
 ·simp
 ·rw [if_pos rfl]
  cases hf : eT v vs 0 with
  | some j =>
   obtain ⟨_, _, h3⟩ := rE v vs 0 j hf
   have := List.mem_of_getElem? h3
   simp only
   constructor
   ·exact .inl
   ·rintro (h | ⟨rfl, _⟩)
    ·exact h
    ·exact this
  | none =>
   simp only
   rw [if_neg (by omega)]
   simp
structure BSt (H h : Zb) (n : Nat) (L : DV) (vs : List V) (ids : List Nat) : Prop where
 len : H.length + 4 ≤ h.length
 old : ∀ i, i < H.length → h[i]? = H[i]?
 res : h[H.length]? = some (.box 25 [.int .i64 0, .nils, .nils])
 dict : DictAt h (H.length + 2) (H.length + 1) L 4096 vs
 idr : h[H.length + 3]? = some (.row 3 1 0 (ids.map iD))
 idl : ids.length = n
 row : ∀ r, rowOf L = some r → H.length + 4 ≤ r
section
variable {H h : Zb} {n : Nat} {L : DV} {vs : List V} {ids : List Nat}
theorem BSt.app (hB : BSt H h n L vs ids) (G : Zb) : BSt H (h ++ G) n L vs ids := by
 have hl := hB.len
 refine ⟨by simp; omega, fun i hi => ?_, ?_, hB.dict.app G, ?_, hB.idl, hB.row⟩
 ·rw [List.getElem?_append_left (by omega)]; exact hB.old i hi
 ·rw [List.getElem?_append_left (by omega)]; exact hB.res
 ·rw [List.getElem?_append_left (by omega)]; exact hB.idr
theorem BSt.add (hB : BSt H h n L vs ids) (v : V) : ∃ L' h', E X 40 [.ref (H.length + 2) 0, v.d] h = some (.tup [.int .i64 (dP 4096 vs v).1, .int .i64 (dP 4096 vs v).2.1], h') ∧ BSt H h' n L' (dP 4096 vs v).2.2 ids := by
 have hl := hB.len
 obtain ⟨L', h', e1, d1, b1, f1, r1⟩ := zR hB.dict (by decide) v
 have hr : ∀ i, i < H.length + 4 → rowOf L ≠ some i := fun i hi h => by have := hB.row i h; omega
 refine ⟨L', h', e1, ⟨by omega, fun i hi => ?_, ?_, d1, ?_, hB.idl, fun r hr' => ?_⟩⟩
 ·rw [f1 i (by omega) (by omega) (by omega) (hr i (by omega))]; exact hB.old i hi
 ·rw [f1 _ (by omega) (by omega) (by omega) (hr _ (by omega))]; exact hB.res
 ·rw [f1 _ (by omega) (by omega) (by omega) (hr _ (by omega))]; exact hB.idr
 ·rcases r1 with r1 | ⟨r0, q1, q2⟩
  ·exact hB.row r (by rw [← r1]; exact hr')
  ·rw [q1] at hr'; injection hr' with hr'; omega
theorem BSt.put (hB : BSt H h n L vs ids) (i x : Nat) : BSt H (h.set (H.length + 3) (.row 3 1 0 ((ids.set i x).map iD))) n L vs (ids.set i x) := by
 have hl := hB.len
 refine ⟨by simpa using hB.len, fun i hi => ?_, ?_, ?_, ?_, by simpa using hB.idl, hB.row⟩
 ·rw [List.getElem?_set_ne (by omega)]; exact hB.old i hi
 ·rw [List.getElem?_set_ne (by omega)]; exact hB.res
 ·refine hB.dict.keep ?_ ?_ fun r hr => ?_
  ·rw [List.getElem?_set_ne (by omega)]
  ·rw [List.getElem?_set_ne (by omega)]
  ·have := hB.row r hr
   rw [List.getElem?_set_ne (by omega)]
 ·rw [List.getElem?_set_self (by omega)]
end
def zy (ls vs : List V) (ids : List Nat) (i : Nat) : Prop := ∀ j v, j < i → ls[j]? = some v → ∃ p, ids[j]? = some p ∧ vs[p]? = some v
theorem Cw {H h : Zb} (hl : H.length ≤ h.length) (ho : ∀ i, i < H.length → h[i]? = H[i]?) : h.take H.length = H := by
 apply List.ext_getElem?
 intro i
 by_cases c : i < H.length
 ·rw [List.getElem?_take_of_lt c]; exact ho i c
 ·rw [List.getElem?_eq_none (by rw [List.length_take]; omega), List.getElem?_eq_none (by omega)]
theorem Hz {H : Zb} {A : DV} {ls : List V} (hA : ∀ g : Zb, g.take H.length = H → vw g 4 A = some (ls.map V.d)) (hb : ls.length ≤ 200) :
 ∀ (k i : Nat) (L : DV) (vs : List V) (ids : List Nat) (h : Zb), ls.length - i ≤ k → i ≤ ls.length → BSt H h ls.length L vs ids → zy ls vs ids i → Gd vs → vs.length ≤ i → (∀ x, x ∈ vs ↔ x ∈ ls.take i) →
  (∃ y ex L' vs' HS h', C X (.loop jr) [(0, A), (2, .ref H.length 0), (4, .ref (H.length + 2) 0), (5, .row (H.length + 3) 0 0 ls.length false), (24, A), (25, .int .i64 ls.length), (26, .int .i64 i)] h = some (.exit 0, (0, A) :: (2, .ref H.length 0) :: (4, .ref (H.length + 2) 0) :: (5, .row (H.length + 3) 0 0 ls.length false) :: (24, A) :: (25, .int .i64 ls.length) :: (26, y) :: ex, h') ∧
   BSt H h' ls.length L' vs' HS ∧ zy ls vs' HS ls.length ∧ Gd vs' ∧ vs'.length ≤ ls.length ∧ (∀ x, x ∈ vs' ↔ x ∈ ls)) ∨
  (∃ h' v, C X (.loop jr) [(0, A), (2, .ref H.length 0), (4, .ref (H.length + 2) 0), (5, .row (H.length + 3) 0 0 ls.length false), (24, A), (25, .int .i64 ls.length), (26, .int .i64 i)] h = some (.ret, [(2, .ref H.length 0), (3, .int .i64 1)], h') ∧
   h'[H.length]? = some (.box 25 [.int .i64 0, .nils, .nils]) ∧ (∀ i, i < H.length → h'[i]? = H[i]?) ∧ v ∈ ls ∧ aG v = false) := by
 intro k
 induction k with
 | zero =>
  intro i L vs ids h hk hi hB hN hG hl hm
  obtain rfl : i = ls.length := by omega
  rw [List.take_length] at hm
  refine .inl ⟨.int .i64 ls.length, [(27, .bool false)], L, vs, ids, h, ?_, hB, hN, hG, hl, hm⟩
  rw [Zx]
  unfold jr
  refine rn trivial ?_
  rw [ZS]
  simp [Za, lk]
 | succ k ih =>
  intro i L vs ids h hk hi hB hN hG hl hm
  by_cases c : i < ls.length
  ·obtain ⟨I, hI⟩ : ∃ I, I = i + 1 := ⟨_, rfl⟩
   have z1 : IntKind.i64.wrap ((i : Int) + 1) = (I : Int) := wr
   obtain ⟨v, hv⟩ : ∃ v, v = ls[i] := ⟨_, rfl⟩
   have iT : ls[i]? = some v := by rw [hv]; exact List.getElem?_eq_getElem c
   have hv' := hv.symm
   have jA := hB.app [.box 34 v.d.cells]
   obtain ⟨L2, h2, EU, rz⟩ := jA.add v
   have gK := hA h (Cw (by have := hB.len; omega) hB.old)
   cases hmv : aG v
   ·
    have yS : dP 4096 vs v = (0, 1, vs) := by simp [dP, hmv]
    rw [yS] at EU rz
    refine .inr ⟨h2.set H.length (.box 25 [.int .i64 0, .nils, .nils]), v, ?_, ?_, fun j hj => ?_, List.mem_of_getElem? iT, hmv⟩
    ·have r0 := rz.res
     have hs : C X jr [(0, A), (2, .ref H.length 0), (4, .ref (H.length + 2) 0), (5, .row (H.length + 3) 0 0 ls.length false), (24, A), (25, .int .i64 ls.length), (26, .int .i64 i)] h = some (.ret, [(2, .ref H.length 0), (3, .int .i64 1)], h2.set H.length (.box 25 [.int .i64 0, .nils, .nils])) := by
      clear ih hB jA rz hN hG hm yS hA hmv hv
      obtain ⟨vk, vn, vs', vt⟩ := v
      simp only [V.d, DV.cells] at *
      unfold jr
      refine aT (jP @c @gK @hv' @iT @EU @r0) ?_
      simp [Za, lk]
     rw [Zx, hs, cQ]
    ·rw [List.getElem?_set_self (by have := rz.len; omega)]
    ·rw [List.getElem?_set_ne (by omega)]; exact rz.old j hj
   ·have hlt : ¬ (4096 : Int) ≤ (vs.length : Int) := by omega
    have hc0 : (dP 4096 vs v).2.1 = 0 := by
     unfold dP
     rw [if_pos hmv]
     cases hf : eT v vs 0 with
     | some j => rfl
     | none => simp only; rw [if_neg hlt]
    obtain ⟨p, hp1, hp2⟩ := FV hc0
    have l8 := FW 4096 v hG
    have lY := DT 4096 vs v
    obtain ⟨t, ht⟩ := DU 4096 vs v
    have Ik := fun x => Cm (Yu := 4096) (vs := vs) v (by omega) x
    rw [hp1, hc0] at EU
    generalize (dP 4096 vs v).2.2 = vs2 at *
    have L5 := rz.put i p
    have LW : zy ls vs2 (ids.set i p) I := by
     intro j x hj hx
     by_cases hji : j = i
     ·subst hji
      rw [iT] at hx; injection hx with hx; subst hx
      exact ⟨p, List.getElem?_set_self (by rw [hB.idl]; omega), hp2⟩
     ·obtain ⟨q, q1, q2⟩ := hN j x (by omega) hx
      refine ⟨q, by rw [List.getElem?_set_ne (Ne.symm hji)]; exact q1, ?_⟩
      rw [ht, List.getElem?_append_left (List.getElem?_eq_some_iff.1 q2).1]; exact q2
    have LA : ∀ x, x ∈ vs2 ↔ x ∈ ls.take I := by
     intro x
     rw [Ik, hm, hI, ← List.take_append_getElem c, List.mem_append, hv']
     simp [hmv]
    have fT := ih I L2 vs2 (ids.set i p) _ (by omega) (by omega) L5 LW l8 (by omega) LA
    have r1 := lB rz.idr hB.idl
    have r2 := uL rz.idr hB.idl c p
    have hs : C X jr [(0, A), (2, .ref H.length 0), (4, .ref (H.length + 2) 0), (5, .row (H.length + 3) 0 0 ls.length false), (24, A), (25, .int .i64 ls.length), (26, .int .i64 i)] h = some (.norm, [(0, A), (2, .ref H.length 0), (4, .ref (H.length + 2) 0), (5, .row (H.length + 3) 0 0 ls.length false), (24, A), (25, .int .i64 ls.length), (26, .int .i64 I)], h2.set (H.length + 3) (.row 3 1 0 ((ids.set i p).map iD))) := by
     have yP := hB.idl
     clear ih fT hB jA rz L5 hN LW hG l8 hm Ik LA hA hmv hv ht hp2
     obtain ⟨vk, vn, vs', vt⟩ := v
     simp only [V.d, DV.cells] at *
     generalize h2.set (H.length + 3) (.row 3 1 0 ((ids.set i p).map iD)) = h3 at *
     unfold jr
     refine aT (jC @c @z1 @gK @hv' @iT @EU @r1 @r2 @yP) ?_
     simp [Za, lk]
    rw [Zx, hs, ZZ]
    exact fT
  ·exact ih i L vs ids h (by omega) hi hB hN hG (by omega) hm
theorem ij : ∀ (a b : Nat), a ≤ b → wN a ≤ wN b := by
 intro a
 induction a using Nat.strongRecOn with
 | _ a ih =>
  intro b h
  rcases Nat.eq_zero_or_pos a with rfl | hp
  ·rw [r7]; omega
  ·rw [lz a hp, lz b (by omega)]
   have := ih (a / 2) (by omega) (b / 2) (by omega)
   omega
theorem o9 {H h : Zb} (hl : H.length ≤ h.length) (ho : ∀ i, i < H.length → h[i]? = H[i]?) : h.take H.length = H := by
 apply List.ext_getElem?
 intro i
 by_cases c : i < H.length
 ·rw [List.getElem?_take_of_lt c]; exact ho i c
 ·rw [List.getElem?_eq_none (by rw [List.length_take]; omega), List.getElem?_eq_none (by omega)]
def df (S : DV) (ys : List V) : Prop := S = .list 4 (ys.map V.d) false ∨ (S = .nils ∧ ys = [])
theorem df.vw {S : DV} {ys : List V} (h : df S ys) (g : Zb) : vw g 4 S = some (ys.map V.d) := by
 rcases h with rfl | ⟨rfl, rfl⟩ <;> rfl
theorem df.one {S : DV} {ys : List V} (h : df S ys) : S.one = true := by
 rcases h with rfl | ⟨rfl, rfl⟩ <;> rfl
theorem Gv {H : Zb} {o m : Nat} {L : DV} {Yu : Int} {vs : List V} (hd : DictAt H o m L Yu vs) (hn : vs.length < 256) (hgd : Gd vs) :
 ∃ S T ys, E X 41 [.ref o 0] H = some (.tup [S, T], H) ∧ df S ys ∧ (∀ g, vw g 1 T = some ((vs.map (place ys)).map iD)) ∧ Up ys ∧ ys.Perm vs := by
 by_cases hv : vs = []
 ·subst hv
  exact ⟨.nils, .nils, [], Gu hd, .inr ⟨rfl, rfl⟩, fun _ => rfl, List.Pairwise.nil, List.Perm.refl _⟩
 ·refine ⟨_, _, (Go.Sort.sort lt vs.toArray).toList, Gt hd hv hn rfl, .inl rfl, fun g => ?_, Fg hgd, nK vs⟩
  simp [vw, toS, List.map_map, Function.comp_def]
def zA (h : Zb) (r : Nat) (hh : Zb) (cur : List Nat) : Prop := hh.length = h.length ∧ (∀ j, j ≠ r → hh[j]? = h[j]?) ∧ hh[r]? = some (.row 3 1 0 (cur.map iD))
theorem FE {h : Zb} {A S T : DV} {c r n : Nat} {ids tl : List Nat} (hT : ∀ g, vw g 1 T = some (tl.map iD)) (hn : ids.length = n) (hb : n ≤ 200) (hi : ∀ p ∈ ids, p < tl.length) :
 ∀ (k i : Nat) (cur : List Nat) (hh : Zb), n - i ≤ k → i ≤ n → zA h r hh cur → cur.length = n → (∀ j, j < i → cur[j]? = (ids.map fun p => tl.getD p 0)[j]?) → (∀ j, i ≤ j → cur[j]? = ids[j]?) →
  ∃ y ex h', C X (.loop oq) [(0, A), (2, .ref c 0), (5, .row r 0 0 n false), (10, S), (11, T), (51, .row r 0 0 n false), (52, .int .i64 n), (53, .int .i64 i)] hh = some (.exit 2, (0, A) :: (2, .ref c 0) :: (5, .row r 0 0 n false) :: (10, S) :: (11, T) :: (51, .row r 0 0 n false) :: (52, .int .i64 n) :: (53, y) :: ex, h') ∧ zA h r h' (ids.map fun p => tl.getD p 0) := by
 intro k
 induction k with
 | zero =>
  intro i cur hh hk hin hI hcl h1 h2
  obtain rfl : i = n := by omega
  have hc : cur = ids.map fun p => tl.getD p 0 := by
   apply List.ext_getElem?
   intro j
   by_cases c : j < i
   ·exact h1 j c
   ·rw [List.getElem?_eq_none (by omega), List.getElem?_eq_none (by simp; omega)]
  rw [← hc]
  refine ⟨.int .i64 i, [(54, .bool false)], hh, ?_, hI⟩
  rw [Zx]
  unfold oq
  refine rn trivial ?_
  rw [ZS]
  simp [Za, lk]
 | succ k ih =>
  intro i cur hh hk hin hI hcl h1 h2
  by_cases cc : i < n
  ·obtain ⟨I, oK⟩ : ∃ I, I = i + 1 := ⟨_, rfl⟩
   have z1 : IntKind.i64.wrap ((i : Int) + 1) = (I : Int) := wr
   have hci : cur[i]? = some ids[i] := by rw [h2 i (Nat.le_refl _)]; exact List.getElem?_eq_getElem (by omega)
   have hp := hi _ (List.getElem_mem (show i < ids.length by omega))
   obtain ⟨p, dF⟩ : ∃ p, p = ids[i] := ⟨_, rfl⟩
   rw [← dF] at hci hp
   obtain ⟨x, hx⟩ : ∃ x, x = tl[p] := ⟨_, rfl⟩
   have hx' := hx.symm
   have LJ : tl.getD p 0 = x := by rw [List.getD_eq_getElem?_getD, List.getElem?_eq_getElem hp, hx]; rfl
   have L1 : zA h r (hh.set r (.row 3 1 0 ((cur.set i x).map iD))) (cur.set i x) := by
    have hlt := (List.getElem?_eq_some_iff.1 hI.2.2).1
    exact ⟨by simpa using hI.1, fun j hj => by rw [List.getElem?_set_ne (Ne.symm hj)]; exact hI.2.1 j hj, List.getElem?_set_self hlt⟩
   have r1 := lB hI.2.2 hcl
   have r2 := uL hI.2.2 hcl cc x
   have Ov := hT hh
   have c2 : i < cur.length := by omega
   have Oq : cur[i] = p := by rw [List.getElem?_eq_getElem c2] at hci; injection hci
   have fT := ih I (cur.set i x) _ (by omega) (by omega) L1 (by simpa using hcl) (fun j hj => by
    by_cases hji : j = i
    ·subst hji
     rw [List.getElem?_set_self c2, List.getElem?_map, List.getElem?_eq_getElem (show j < ids.length by omega), ← dF, Option.map_some, LJ]
    ·rw [List.getElem?_set_ne (Ne.symm hji)]; exact h1 j (by omega)) (fun j hj => by
    rw [List.getElem?_set_ne (by omega)]; exact h2 j (by omega))
   have hs : C X oq [(0, A), (2, .ref c 0), (5, .row r 0 0 n false), (10, S), (11, T), (51, .row r 0 0 n false), (52, .int .i64 n), (53, .int .i64 i)] hh = some (.norm, [(0, A), (2, .ref c 0), (5, .row r 0 0 n false), (10, S), (11, T), (51, .row r 0 0 n false), (52, .int .i64 n), (53, .int .i64 I)], hh.set r (.row 3 1 0 ((cur.set i x).map iD))) := by
    clear ih fT hI L1 h1 h2 hi hT dF hx LJ
    generalize hh.set r (.row 3 1 0 ((cur.set i x).map iD)) = h3 at *
    unfold oq
    refine aT (eY @cc @c2 @z1 @Oq @hp @hx' @hcl @r1 @r2 @Ov) ?_
    simp [Za, lk]
   rw [Zx, hs, ZZ]
   exact fT
  ·exact ih i cur hh (by omega) hin hI hcl h1 h2
abbrev aI (n : Int) (D B : DV) : DV := .agg [.int .i64 n, D, B]
theorem xI {H h' : Zb} {n k : Int} {D B : DV} (ht : h'.take H.length = H) (hD : D.one = true ∧ (D = .nils ∨ ∃ s l c, D = .list s l c)) (hB : B = .nils ∨ ∃ s l c, B = .list s l c) : fin H h' [aI n D B, .int .i64 k] = (.tup [aI n D B, .int .i64 k], H) := by
 simp only [fin]
 rw [if_pos ht]
 obtain ⟨_, hD⟩ := hD
 rcases hD with rfl | ⟨s, l, c, rfl⟩ <;> rcases hB with rfl | ⟨s', l', c', rfl⟩ <;> rfl
theorem df.sh {S : DV} {ys : List V} (h : df S ys) : S = .nils ∨ ∃ s l c, S = .list s l c := by
 rcases h with rfl | ⟨rfl, rfl⟩
 ·exact .inr ⟨_, _, _, rfl⟩
 ·exact .inl rfl
set_option maxHeartbeats 1000000 in
theorem Gp {H : Zb} {A : DV} {ls : List V} (hA : ∀ g : Zb, g.take H.length = H → vw g 4 A = some (ls.map V.d)) (hb : ls.length ≤ 200) :
 (∃ S ys, E X 22 [A] H = some (.tup [aI ls.length S (.list 1 ((pack (ls.map (place ys)) (wC ys.length)).map bD) false), .int .i64 0], H) ∧ df S ys ∧ Up ys ∧ (∀ x, x ∈ ys ↔ x ∈ ls) ∧ ys.length ≤ ls.length ∧ ∀ x ∈ ls, aG x = true) ∨
 (E X 22 [A] H = some (.tup [aI 0 .nils .nils, .int .i64 1], H) ∧ ∃ v, v ∈ ls ∧ aG v = false) := by
 obtain ⟨h0, LI⟩ : ∃ h0, h0 = H ++ [HO.box 25 [.int .i64 0, .nils, .nils], .map 0 0 [], .box 100 [.int .i64 4096, .nils, .map (H.length + 1)], .row 3 1 0 (List.replicate ls.length (.int .i64 0))] := ⟨_, rfl⟩
 have A9 : BSt H h0 ls.length .nils [] (List.replicate ls.length 0) := by
  subst LI
  refine ⟨by simp, fun i hi => by rw [List.getElem?_append_left hi], by simp, ⟨by simp [ae], by simp [ae, jJ], .inl ⟨rfl, rfl⟩⟩, by simp [ae], by simp, fun r hr => by simp [rowOf] at hr⟩
 have I3 := Gl 4096 (H ++ [.box 25 [.int .i64 0, .nils, .nils]])
 have hlim : yE 4096 = 4096 := by decide
 rw [hlim] at I3
 have hA0 : ∀ G, vw (H ++ G) 4 A = some (ls.map V.d) := fun G => hA _ List.take_left
 have L6 : vw H 4 A = some (ls.map V.d) := hA _ List.take_length
 have d0 : ¬ (4096 : Int) < (ls.length : Int) := by omega
 have d0' : ¬ 4096 < ls.length := by omega
 have m0 : (0 : Int) ≤ (ls.length : Int) := by omega
 have m1 : (ls.length : Int) * 8 ≤ 140737488355328 := by omega
 have hW : Wc 1 (.int .i64 0) := by simp [Wc, DV.cells, DV.one]
 have A0 := Hz hA hb ls.length 0 .nils [] _ h0 (by omega) (by omega) A9 (fun j v hj => by omega) IK (by simp) (by simp)
 rw [show ((0 : Nat) : Int) = 0 from rfl, LI] at A0
 rcases A0 with ⟨y, ex, L', vs, ids, h1, hc, hB, hN, hG, hvl, hmem⟩ | ⟨h1, v, hc, hres, hold, iU, nB⟩
 ·left
  obtain ⟨S, T, ys, vR, hS, hT, hU, hP⟩ := Gv hB.dict (by omega) hG
  have iC : ys.length ≤ ls.length := by rw [hP.length_eq]; exact hvl
  have yM : ∀ x, x ∈ ys ↔ x ∈ ls := fun x => by rw [hP.mem_iff, hmem]
  refine ⟨S, ys, ?_, hS, hU, yM, iC, fun x hx => hG.1 x ((hmem x).2 hx)⟩
  have yP : ∀ p ∈ ids, p < vs.length := by
   intro p hp
   obtain ⟨j, hj, rfl⟩ := List.mem_iff_getElem.1 hp
   have rj : j < ls.length := by rw [← hB.idl]; exact hj
   obtain ⟨q, q1, q2⟩ := hN j _ rj (List.getElem?_eq_getElem rj)
   rw [List.getElem?_eq_getElem hj] at q1
   injection q1 with q1
   rw [q1]; exact (List.getElem?_eq_some_iff.1 q2).1
  obtain ⟨y', xJ, h2, hc2, hI⟩ := FE (h := h1) (A := A) (S := S) (c := H.length) (r := H.length + 3) (n := ls.length) hT hB.idl hb (by simpa using yP) ls.length 0 ids h1 (by omega) (by omega) ⟨rfl, fun _ _ => rfl, hB.idr⟩ hB.idl (fun j hj => by omega) (fun j _ => rfl)
  have hil : (ids.map fun p => (vs.map (place ys)).getD p 0) = ls.map (place ys) := by
   apply List.ext_getElem?
   intro j
   rw [List.getElem?_map, List.getElem?_map]
   by_cases cj : j < ls.length
   ·obtain ⟨q, q1, q2⟩ := hN j _ cj (List.getElem?_eq_getElem cj)
    rw [q1, List.getElem?_eq_getElem cj]
    simp [List.getD_eq_getElem?_getD, q2]
   ·rw [List.getElem?_eq_none (by rw [hB.idl]; omega), List.getElem?_eq_none (by omega)]
    rfl
  rw [hil] at hI
  have r1 := lB (n := ls.length) hI.2.2 (by simp)
  have r0 := lB hB.idr hB.idl
  have NK := hB.idl
  have Lm : ∀ G, vw (h2 ++ G) 1 (.row (H.length + 3) 0 0 ls.length false) = some ((ls.map (place ys)).map iD) := fun G => lB (by rw [List.getElem?_append_left (List.getElem?_eq_some_iff.1 hI.2.2).1]; exact hI.2.2) (by simp)
  have k9 := uf ys.length (by omega) h2
  have pJ : wC ys.length ≤ 62 := by
   have h1 := ij (ys.length - 1) 255 (by omega)
   have h2 : wN 255 = 8 := by decide
   unfold wC; omega
  have ET := Kw (H := h2) Lm pJ (by simp; omega) (fun p hp => by
   obtain ⟨x, hx, rfl⟩ := List.mem_map.1 hp
   have hq := (List.getElem?_eq_some_iff.1 (pE hU ((yM x).2 hx)).1).1
   exact ⟨by omega, ij _ _ (by omega)⟩)
  have EN := hS.vw
  have Iy := hS.one
  have hres : h2[H.length]? = some (.box 25 [.int .i64 0, .nils, .nils]) := by rw [hI.2.1 _ (by omega)]; exact hB.res
  have hlen : H.length + 4 ≤ h2.length := by rw [hI.1]; exact hB.len
  have hold : ∀ i, i < H.length → h2[i]? = H[i]? := fun i hi => by rw [hI.2.1 _ (by omega)]; exact hB.old i hi
  have hA2 := hA h2 (o9 (by omega) hold)
  generalize pack (ls.map (place ys)) (wC ys.length) = pk at *
  generalize wC ys.length = w at *
  have aB : fin H (h2.set H.length (.box 25 [.int .i64 ls.length, S, .list 1 (pk.map bD) false])) [aI ls.length S (.list 1 (pk.map bD) false), .int .i64 0] = _ :=
   xI (o9 (by simp; omega) (fun i hi => by rw [List.getElem?_set_ne (by omega)]; exact hold i hi)) ⟨Iy, hS.sh⟩ (.inr ⟨_, _, _, rfl⟩)
  have hres2 : (h2.set H.length (.box 25 [.int .i64 ls.length, S, .list 1 (pk.map bD) false]))[H.length]? = some (.box 25 [.int .i64 ls.length, S, .list 1 (pk.map bD) false]) := List.getElem?_set_self (by omega)
  generalize hh3 : h2.set H.length (.box 25 [.int .i64 ls.length, S, .list 1 (pk.map bD) false]) = h3 at aB hres2
  clear hN hG hmem yM hP hU hI hB hT yP hil Lm
  rw [show ((0 : Nat) : Int) = 0 from rfl] at hc2
  rw [ZO (X := X) _ Ca _ rfl rfl]; unfold Ca
  refine rn (gN @hA0 @L6 @d0 @d0' @I3 @m0 @m1 @hW) ?_
  refine aD ?_
  rw [hc]
  have LQ := EN
  refine rn (ew @vR @r0 @NK) ?_
  refine aD ?_
  rw [hc2]
  rcases hS with rfl | ⟨rfl, rfl⟩
  ·clear LQ
   refine rn (kE @hA2 @EN @k9 @ET @hres @Iy @hh3) ?_
   simp only [Zw, Yc, lk, Za, List.map_cons, List.map_nil, reduceIte, Option.map_some, Nat.reduceEqDiff]
   rw [Zl, hres2]
   exact congrArg some aB
  ·clear LQ
   rw [show ((([] : List V).length : Nat) : Int) = 0 from rfl] at k9
   have EN : ∀ g, vw g 4 .nils = some [] := fun _ => rfl
   refine rn (kE @hA2 @EN @k9 @ET @hres @Iy @hh3) ?_
   simp only [Zw, Yc, lk, Za, List.map_cons, List.map_nil, reduceIte, Option.map_some, Nat.reduceEqDiff]
   rw [Zl, hres2]
   exact congrArg some aB
 ·right
  refine ⟨?_, v, iU, nB⟩
  have aB : fin H h1 [aI 0 .nils .nils, .int .i64 1] = _ := xI (o9 (by have := (List.getElem?_eq_some_iff.1 hres).1; omega) hold) ⟨rfl, .inl rfl⟩ (.inl rfl)
  rw [ZO (X := X) _ Ca _ rfl rfl]; unfold Ca
  refine rn (gN @hA0 @L6 @d0 @d0' @I3 @m0 @m1 @hW) ?_
  refine aD ?_
  rw [hc]
  refine rn trivial ?_
  simp only [Zw, Yc, lk, Za, List.map_cons, List.map_nil, reduceIte, Option.map_some, Nat.reduceEqDiff]
  have hl : ay h1 true 3 (.ref H.length 0) = some (aI 0 .nils .nils) := by rw [Zl, hres]; rfl
  rw [hl]
  simp only [Option.map_some]
  rw [aB]
theorem KI {H : Zb} {A : DV} {ls : List V} (hA : ∀ g, vw g 4 A = some (ls.map V.d)) (hb : ls.length ≤ 200) :
 (∃ S ys, E X 22 [A] H = some (.tup [aI ls.length S (.list 1 ((pack (ls.map (place ys)) (wC ys.length)).map bD) false), .int .i64 0], H) ∧ df S ys ∧ Up ys ∧ (∀ x, x ∈ ys ↔ x ∈ ls) ∧ ys.length ≤ ls.length ∧ ∀ x ∈ ls, aG x = true) ∨
 (E X 22 [A] H = some (.tup [aI 0 .nils .nils, .int .i64 1], H) ∧ ∃ v, v ∈ ls ∧ aG v = false) := Gp (fun g _ => hA g) hb
def fF (H h : Zb) (d : DV) (vs : List V) : Prop :=
 h.take H.length = H ∧ ((d = .nils ∧ vs = []) ∨ ∃ g o, d = .row o g 0 vs.length false ∧ H.length ≤ o ∧ h[o]? = some (.row 34 4 g (vs.map V.d)))
section
variable {H h : Zb} {d : DV} {vs : List V}
theorem fF.zero : fF H H .nils [] := ⟨List.take_length, .inl ⟨rfl, rfl⟩⟩
theorem fF.ext (hg : fF H h d vs) (G : Zb) : fF H (h ++ G) d vs := by
 obtain ⟨ht, hr⟩ := hg
 refine ⟨?_, ?_⟩
 ·rw [List.take_append_of_le_length (fo ht)]; exact ht
 ·rcases hr with hr | ⟨g, o, h1, h2, h3⟩
  ·exact .inl hr
  ·exact .inr ⟨g, o, h1, h2, by rw [List.getElem?_append_left (List.getElem?_eq_some_iff.1 h3).1]; exact h3⟩
theorem fF.vw (hg : fF H h d vs) (G : Zb) : vw (h ++ G) 4 d = some (vs.map V.d) := by
 rcases (hg.ext G).2 with ⟨rfl, rfl⟩ | ⟨g, o, rfl, h2, h3⟩
 ·rfl
 ·simp [Go.Proofs.YteekbciaggmfgaaDoor.vw, h3, List.take_of_length_le]
theorem fF.vw0 (hg : fF H h d vs) : Go.Proofs.YteekbciaggmfgaaDoor.vw h 4 d = some (vs.map V.d) := by
 have := hg.vw []; rwa [List.append_nil] at this
theorem fF.app (hg : fF H h d vs) (v : V) (hb : vs.length ≤ 1000000) : ∃ d' h', aX h 34 4 40 d (vs.map V.d) [v.d] = some (d', h') ∧ fF H h' d' (vs ++ [v]) := by
 have hle : ((vs.map V.d).length + [v.d].length) * 40 ≤ 140737488355328 := by simp; omega
 have hne : [v.d] ≠ [] := by simp
 obtain ⟨ht, hr⟩ := hg
 rcases hr with ⟨rfl, rfl⟩ | ⟨g, o, rfl, h2, h3⟩
 ·refine ⟨.row h.length 0 0 1 false, h ++ [.row 34 4 0 [v.d]], ?_, ?_, .inr ⟨0, h.length, by simp, fo ht, by simp⟩⟩
  ·simp only [aX, if_neg hne]
   rw [if_pos hle]
   rfl
  ·rw [List.take_append_of_le_length (fo ht)]; exact ht
 ·have hlt := (List.getElem?_eq_some_iff.1 h3).1
  refine ⟨.row o (g + 1) 0 (vs.length + 1) false, h.set o (.row 34 4 (g + 1) (vs.map V.d ++ [v.d])), ?_, ?_, .inr ⟨g + 1, o, by simp, h2, ?_⟩⟩
  ·simp only [aX, if_neg hne, h3]
   rw [if_pos hle]
   simp
  ·rw [List.take_set_of_le h2]; exact ht
  ·rw [List.getElem?_set_self hlt]; simp
end
theorem sU {H h : Zb} (ht : h.take H.length = H) {i : Nat} (hi : i < H.length) : h[i]? = H[i]? := by
 have : (h.take H.length)[i]? = h[i]? := List.getElem?_take_of_lt hi
 rw [← this, ht]
theorem fF.pre {H H1 h : Zb} {d : DV} {vs : List V} (hB : fF H1 h d vs) {x : HO} (eu : H1 = H ++ [x]) : h.take H.length = H := by
 have h1 : h.take H.length = (h.take H1.length).take H.length := by rw [List.take_take, Nat.min_eq_left (by rw [eu]; simp)]
 rw [h1, hB.1, eu]
 exact List.take_left
theorem aC.sh {R : DV} {bs : List Nat} (h : aC R bs) : R = .nils ∨ ∃ s l c, R = .list s l c := by
 rcases h with ⟨rfl, _⟩ | rfl
 ·exact .inl rfl
 ·exact .inr ⟨_, _, _, rfl⟩
theorem HA {h : Zb} {A B : DV} {bs : List Nat} (hA : vw h 1 A = some (bs.map bD)) (hB : vw h 1 B = some (bs.map bD)) (hb : bs.length ≤ 1000000) :
 ∀ (k i : Nat), bs.length - i ≤ k → i ≤ bs.length → ∃ e', C X (.loop ot) [(0, A), (1, B), (5, .int .i64 i)] h = some (.exit 0, e', h) := by
 intro k
 induction k with
 | zero =>
  intro i hk hi
  obtain rfl : i = bs.length := by omega
  refine ⟨[(0, A), (1, B), (5, .int .i64 bs.length), (14, .bool false)], ?_⟩
  rw [Zx]
  unfold ot
  refine rn @hA ?_
  rw [ZS]
  simp [Za, lk]
 | succ k ih =>
  intro i hk hi
  by_cases c : i < bs.length
  ·obtain ⟨I, hI⟩ : ∃ I, I = i + 1 := ⟨_, rfl⟩
   have z1 : IntKind.i64.wrap ((i : Int) + 1) = (I : Int) := wr
   obtain ⟨x, hx⟩ : ∃ x, x = bs[i] := ⟨_, rfl⟩
   have hx' := hx.symm
   have hs : C X ot [(0, A), (1, B), (5, .int .i64 i)] h = some (.norm, [(0, A), (1, B), (5, .int .i64 I)], h) := by
    clear ih
    unfold ot
    refine aT (mh @c @z1 @hA @hB @hx') ?_
    simp [Za, lk]
   rw [Zx, hs, ZZ]
   exact ih I (by omega) (by omega)
  ·exact ih i (by omega) hi
theorem Em {h : Zb} {A B : DV} {bs : List Nat} (hA : vw h 1 A = some (bs.map bD)) (hB : vw h 1 B = some (bs.map bD)) (hb : bs.length ≤ 1000000) : E X 18 [A, B] h = some (.bool true, h) := by
 obtain ⟨e', hc⟩ := HA hA hB hb bs.length 0 (by omega) (by omega)
 rw [show ((0 : Nat) : Int) = 0 from rfl] at hc
 rw [ZO (X := X) _ JS _ rfl rfl]; unfold JS
 refine rn (cC @hA @hB) ?_
 refine aD ?_
 rw [hc]
 refine rn trivial ?_
 exact re trivial
end Go.Proofs.YteekbciaggmfgaaDoor
