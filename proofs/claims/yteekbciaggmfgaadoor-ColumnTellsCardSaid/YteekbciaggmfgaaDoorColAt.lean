/- Ideal runs. -/
import Derived.Test.YteekbciaggmfgaaDoorStep
import Derived.Test.YteekbciaggmfgaaDoorColL
import Derived.Test.YteekbciaggmfgaaDoorColX
import Derived.Test.YteekbciaggmfgaaDoorNumP
namespace Go.Proofs.YteekbciaggmfgaaDoor
attribute [local go_sem] ZF Zy ZA ZB Zp Zf Zm Zi Zk Zc Zd Zj Zq Zr ZC Zo Zg Zz Zu Zt ZR Zv Yj put lk Od.v Za Ze Zl Yv Yb Ya Yd ai Yt DV.isU DV.cells ae ZJ ZX ZK Zn splice ZM af ZT Ys bz bR bL bf bP bu aZ bn bN bg bQ bj bq bh bU bV bK aQ aR
attribute [local go_sem ↓] Zh
set_option linter.unusedVariables false
set_option linter.unusedSimpArgs false
set_option linter.unusedSectionVars false
set_option maxRecDepth 10000
theorem Cr {c : RC} (h : dU c.n c.ys c.bs) : (iQ c.n c.ys c.bs).length = c.n.toNat := by
 unfold iQ
 rw [if_pos h]
 unfold dH
 rw [List.length_map, dV]
noncomputable def jL (c : RC) : List V := iQ c.n c.ys c.bs
theorem Fa {c : RC} (h : ¬ dU c.n c.ys c.bs) : jL c = [] := by unfold jL iQ; rw [if_neg h]
open Classical in
theorem GG {c : RC} (hc : c.Ok) {i : Nat} (h : (jL c).length ≤ i) (H : Zb) : E X 11 [.agg [.int .i64 c.n, c.D, c.B], .int .i64 i] H = some (.tup [.agg [.int .i64 0, .int .i64 0, .str ⟨#[]⟩, .bool false], .bool false], H) := by
 have d0 : ¬ (i : Int) < 0 := by omega
 by_cases hN : c.n ≤ (i : Int)
 ·rw [ZO (X := X) _ r6 _ rfl rfl]; unfold r6; exact rg (cC @d0 @hN)
 ·have hno : ¬ dU c.n c.ys c.bs := fun hok => by
   unfold jL at h
   rw [Cr hok] at h
   have := hok.1
   omega
  have gO : ∀ g, E X 19 [.agg [.int .i64 c.n, c.D, c.B]] g = some (.bool false, g) := fun g => by
   have := qH (n := c.n) hc.dict (by have := hc.yl; omega) hc.bytes hc.bb g
   rw [decide_eq_false hno] at this
   exact this
  have OI := hc.dict.one
  have jA := hc.bytes.one'
  obtain ⟨cn, cy, cb, cD, cB⟩ := c
  simp only at *
  clear h hno hc
  rw [ZO (X := X) _ r6 _ rfl rfl]; unfold r6; exact kQ (mh @d0 @hN @gO @OI @jA)
theorem GD {c : RC} (hc : c.Ok) {i : Nat} (h : i < (jL c).length) (H : Zb) : E X 11 [.agg [.int .i64 c.n, c.D, c.B], .int .i64 i] H = some (.tup [((jL c).getD i v0).d, .bool true], H) := by
 have hok : dU c.n c.ys c.bs := Classical.byContradiction fun hno => by rw [Fa hno] at h; simp at h
 obtain ⟨hn, hC⟩ := hok.col hc.dict (by have := hc.yl; omega) hc.bytes hc.bb
 have hv : jL c = dH c.ys (bF c.bs (wC c.ys.length) c.n.toNat) := by unfold jL iQ; rw [if_pos hok]
 rw [hv] at h ⊢
 unfold dH at h ⊢
 rw [List.length_map] at h
 have hp := List.getElem?_eq_getElem h
 have hpl := (hC.mem _).1 (List.getElem_mem h)
 have tF := List.getElem?_eq_getElem hpl
 have e := KL hC hp tF H
 rw [← hn] at e
 rw [List.getD_eq_getElem?_getD, List.getElem?_map, hp]
 simp only [Option.map_some, Option.getD_some]
 rw [List.getD_eq_getElem?_getD, tF]
 exact e
theorem GH {n : Int} {D B : DV} {i : Int} (hi : i < 0) (H : Zb) : E X 11 [.agg [.int .i64 n, D, B], .int .i64 i] H = some (.tup [.agg [.int .i64 0, .int .i64 0, .str ⟨#[]⟩, .bool false], .bool false], H) := by
 rw [ZO (X := X) _ r6 _ rfl rfl]; unfold r6; exact rg @hi
theorem sN (n : Nat) (ys : List V) (bs : List Nat) : zi n ys bs = ((ax n ++ ax ys.length) ++ eN ys) ++ bs := rfl
set_option maxHeartbeats 1000000 in
theorem Gy {H : Zb} {n : Nat} {D B : DV} {ys : List V} {il bs : List Nat} (hC : ColOk n D B ys il) (hB : aC B bs) (hi : ∀ v ∈ ys, lh v) (xy : bs.length ≤ 100000) : ∃ R, E X 16 [aI n D B] H = some (.tup [R, .int .i64 0], H) ∧ aC R (zi n ys bs) := by
 obtain ⟨Hb, oL⟩ : ∃ Hb, Hb = H ++ [HO.box 25 [.int .i64 n, D, B], .row 5 1 0 ((ax n).map bD)] := ⟨_, rfl⟩
 have xL := fun g => pn hC g
 have hnb := hC.nb
 have cH := hC.yb
 have aU := hC.dict.vw
 have xD := hB.vw
 have dz : B.one = true := hB.one'
 have cT := hC.dict.one
 have I7 : ∀ g, E X 35 [.nils, .int .i64 n] g = some (.fresh 5 1 ((ax n).map bD), g) := fun g => yw (H := g) (B := .nils) (l := []) (n := n) rfl rfl (by omega) (by simp)
 have h10 := da (u := n) (by omega)
 have IJ := da (u := ys.length) (by omega)
 have I5 : E X 35 [.row (H.length + 1) 0 0 ((ax n).map bD).length false, .int .i64 ys.length] Hb = some (.fresh 5 1 ((ax n ++ ax ys.length).map bD), Hb) := yw (H := Hb) (l := ax n) (n := ys.length) (by subst oL; simp [vw, ae, List.take_of_length_le]) rfl (by omega) (by omega)
 have hg0 := ja (T := 5) (Hb := Hb) (h := Hb) List.take_length (ax n ++ ax ys.length)
 obtain ⟨ex, h', d', hc, hg, hl⟩ := HC (b := H.length) aU hC.may hi cH ys.length 0 _ _ _ (by omega) (by omega) (by rw [List.length_append]; omega) hg0
 rw [show ((0 : Nat) : Int) = 0 from rfl] at hc
 rw [List.drop_zero] at hg hl
 have eR : Hb[H.length]? = some (.box 25 [.int .i64 n, D, B]) := by rw [oL]; simp [ae]
 have gB := jX hg.1 eR
 have hw := hg.vw
 have cz := dS hg
 obtain ⟨d3, h3, ha, eH⟩ := hg.app 1 (bs.map bD) (by simp only [List.length_map]; omega)
 have hgB := eH.base (H := H) (by rw [oL]; simp)
 rw [← List.map_append, ← sN] at hgB
 obtain ⟨R, aB, hR⟩ := kD hgB 0
 refine ⟨R, ?_, hR⟩
 have hsB : aJ h' 1 B = some (bs.map bD) := by
  rcases hB with ⟨rfl, rfl⟩ | rfl <;> rfl
 have kp := Zm (H ++ [HO.box 25 [.int .i64 n, D, B]]) [HO.row 5 1 0 ((ax n).map bD)] (.row (H.length + 1) 0 0 ((ax n).map bD).length false)
 generalize ((ax n ++ ax ys.length) ++ eN ys).map bD = xs at *
 generalize (ax n ++ ax ys.length).map bD = rs at *
 generalize bs.map bD = zs at *
 generalize (ax n).map bD = ns at *
 clear hg hg0 eH hgB hl h10 IJ hR hC hB hi eR
 subst oL
 simp only [List.append_assoc, List.length_append, List.length_cons, List.length_nil, Nat.zero_add, List.cons_append, List.nil_append] at hc I5 kp
 unfold aI at *
 rw [ZO (X := X) _ Cc _ rfl rfl]; unfold Cc
 refine aT (kE @xL @I7 @I5 @kp @aU @cT @dz) ?_
 refine aD ?_
 rw [hc]
 refine aT (kE @gB @hw @hsB @ha @cz @dz @cT) ?_
 simp only [Zw, Yc, lk, Za, List.map_cons, List.map_nil, reduceIte, Option.map_some, Nat.reduceEqDiff, aB]
open Classical in
theorem Gz {H : Zb} {n : Int} {D B : DV} {ys : List V} {bs : List Nat} (hD : df D ys) (cH : ys.length ≤ 256) (hB : aC B bs) (bb : BB bs) (h : ¬ dU n ys bs) : E X 16 [aI n D B] H = some (.tup [.nils, .int .i64 1], H) := by
 have xL : ∀ g, E X 19 [.agg [.int .i64 n, D, B]] g = some (.bool false, g) := fun g => by
  have := qH (n := n) hD cH hB bb g
  rw [decide_eq_false h] at this
  exact this
 have cT := hD.one
 have dz := hB.one'
 unfold aI
 clear h hD hB bb
 rw [ZO (X := X) _ Cc _ rfl rfl]; unfold Cc; exact kQ (ew @xL @cT @dz)
def zB (R : DV) (l : List Nat) : Prop := R = .list 1 (l.map bD) true ∨ R = .fresh 5 1 (l.map bD)
set_option maxHeartbeats 1000000 in
theorem yo : ∀ (q a b : Nat) (H : Zb), a ≤ q → a < 9223372036854775808 → b ≤ 1 → ∃ R, E X 63 [.int .i64 a, .int .i64 b] H = some (R, H) ∧ zB R (ax (2 * a + b)) := by
 intro q
 induction q with
 | zero =>
  intro a b H hq ha hb
  obtain rfl : a = 0 := by omega
  refine ⟨.list 1 [bD b] true, ?_, .inl (by rw [jD (by omega)]; simp)⟩
  have m1 : IntKind.i64.wrap (0 + (b : Int)) = (b : Int) := wr
  have Ai : IntKind.i64.wrap (b : Int) = (b : Int) := wrap64 _ (by omega) (by omega)
  have m0 : IntKind.i64.wrap 0 = 0 := wrap64 _ (by omega) (by omega)
  have m2 : IntKind.u8.wrap (b : Int) = (b : Int) := gb (by omega)
  have y1 : ∀ h, cM [bD b] h = some ([bD b], h) := fun _ => rfl
  have y2 : Wc 1 (bD b) := by simp [Wc, DV.cells, DV.one]
  have y3 : Nr (bD b) := .int _ _
  rw [show ((0 : Nat) : Int) = 0 from rfl]
  rw [ZO (X := X) _ rX _ rfl rfl]; unfold rX; exact rg (kE @m0 @m1 @Ai @m2 @y1 @y2 @y3)
 | succ q ih =>
  intro a b H hq ha hb
  by_cases c : a < 64
  ·refine ⟨.list 1 [bD (2 * a + b)] true, ?_, .inl (by rw [jD (by omega)]; simp)⟩
   obtain ⟨K, hK⟩ : ∃ K, K = 2 * a + b := ⟨_, rfl⟩
   rw [← hK]
   have m0 : IntKind.i64.wrap (2 * (a : Int)) = 2 * (a : Int) := wrap64 _ (by omega) (by omega)
   have m1 : IntKind.i64.wrap (2 * (a : Int) + (b : Int)) = (K : Int) := wr
   have m2 : IntKind.u8.wrap (K : Int) = (K : Int) := gb (by omega)
   have c' : (a : Int) < 64 := by omega
   have y1 : ∀ h, cM [bD K] h = some ([bD K], h) := fun _ => rfl
   have y2 : Wc 1 (bD K) := by simp [Wc, DV.cells, DV.one]
   have y3 : Nr (bD K) := .int _ _
   clear hK ih
   rw [ZO (X := X) _ rX _ rfl rfl]; unfold rX; exact rg (gN @c @c' @m0 @m1 @m2 @y1 @y2 @y3)
  ·obtain ⟨A, hA⟩ : ∃ A, A = a / 64 / 2 := ⟨_, rfl⟩
   obtain ⟨O, hO⟩ : ∃ O, O = a / 64 % 2 := ⟨_, rfl⟩
   obtain ⟨K, hK⟩ : ∃ K, K = 2 * (a % 64) + b + 128 := ⟨_, rfl⟩
   obtain ⟨Q, hQ⟩ : ∃ Q, Q = a / 64 := ⟨_, rfl⟩
   obtain ⟨M, hM⟩ : ∃ M, M = a % 64 := ⟨_, rfl⟩
   have hd := Dx a b hb
   rw [if_neg c, ← hK, ← hA, ← hO] at hd
   obtain ⟨R, mj, hR⟩ := ih A O H (by omega) (by omega) (by omega)
   have c' : ¬ (a : Int) < 64 := by omega
   have m1 : (a : Int).tdiv 64 = (Q : Int) := by rw [Int.tdiv_eq_ediv_of_nonneg (by omega)]; omega
   have w1 : IntKind.i64.wrap (Q : Int) = (Q : Int) := wrap64 _ (by omega) (by omega)
   have m2 : (Q : Int).tdiv 2 = (A : Int) := by rw [Int.tdiv_eq_ediv_of_nonneg (by omega)]; omega
   have w2 : IntKind.i64.wrap (A : Int) = (A : Int) := wrap64 _ (by omega) (by omega)
   have m3 : (Q : Int).tmod 2 = (O : Int) := by rw [Int.tmod_eq_emod_of_nonneg (by omega)]; omega
   have w3 : IntKind.i64.wrap (O : Int) = (O : Int) := wrap64 _ (by omega) (by omega)
   have m4 : (a : Int).tmod 64 = (M : Int) := by rw [Int.tmod_eq_emod_of_nonneg (by omega)]; omega
   have w4 : IntKind.i64.wrap (M : Int) = (M : Int) := wrap64 _ (by omega) (by omega)
   have w5 : IntKind.i64.wrap (2 * (M : Int)) = 2 * (M : Int) := wrap64 _ (by omega) (by omega)
   have w6 : IntKind.i64.wrap (2 * (M : Int) + (b : Int)) = 2 * (M : Int) + (b : Int) := wrap64 _ (by omega) (by omega)
   have w7 : IntKind.i64.wrap (2 * (M : Int) + (b : Int) + 128) = (K : Int) := wr
   have w8 : IntKind.u8.wrap (K : Int) = (K : Int) := gb (by omega)
   obtain ⟨ds, hds⟩ : ∃ ds, ds = (ax (2 * A + O)).map bD := ⟨_, rfl⟩
   have hdn : ds ≠ [] := by rw [hds]; simp [vU]
   have Is : ds.length ≤ 10 := by rw [hds, List.length_map]; exact da (by omega)
   have M6 : ∀ x ∈ bD K :: ds, Nr x := by
    intro x hx
    rcases List.mem_cons.1 hx with rfl | hx
    ·exact .int _ _
    ·rw [hds] at hx; exact Eu _ x hx
   refine ⟨.fresh 5 1 (bD K :: ds), ?_, .inr (by rw [hd, List.map_cons, hds])⟩
   have y1 : ∀ h, cM [bD K] h = some ([bD K], h) := fun _ => rfl
   have y2 : Wc 1 (bD K) := by simp [Wc, DV.cells, DV.one]
   have y3 : Nr (bD K) := .int _ _
   have y5 : ∀ h, vw h 1 (.list 1 [bD K] true) = some [bD K] := fun _ => rfl
   have hap : ∀ g, aX g 5 1 1 (.list 1 [bD K] true) [bD K] ds = some (.row g.length 0 0 (1 + ds.length) false, g ++ [.row 5 1 0 (bD K :: ds)]) := fun g => by
    simp only [aX, if_neg hdn]
    rw [if_pos (by simp; omega)]
    simp
   have aB : ∀ G, fin H (H ++ G ++ [.row 5 1 0 (bD K :: ds)]) [.row (H.length + G.length) 0 0 (1 + ds.length) false] = (.fresh 5 1 (bD K :: ds), H) := fun G => by
    have hg : cE 5 1 H (H ++ G ++ [.row 5 1 0 (bD K :: ds)]) (.row (H.length + G.length) 0 0 (bD K :: ds).length false) (bD K :: ds) := ⟨by simp, .inr ⟨0, _, rfl, by omega, by rw [List.getElem?_append_right (by simp)]; simp⟩⟩
    have := hg.fin M6
    rw [List.length_cons, Nat.add_comm ds.length 1] at this
    rcases this with ⟨h1, _⟩ | ⟨_, h1⟩
    ·cases h1
    ·exact h1
   unfold zB at hR
   rw [← hds] at hR
   clear ih hds hA hO hK hQ hM hd hq
   rcases hR with rfl | rfl
   ·have hf := aB []
    have y4 : ∀ h, aJ h 1 (.list 1 ds true) = some ds := fun _ => rfl
    simp only [List.append_nil, List.length_nil, Nat.add_zero] at hf
    rw [ZO (X := X) _ rX _ rfl rfl]; unfold rX
    refine rn (sJ @c @c' @m1 @w1 @m2 @w2 @m3 @w3 @m4 @w4 @w5 @w6 @w7 @w8 @mj @y1 @y2 @y3 @y4 @y5 @hap) ?_
    simp only [Zw, Yc, lk, Za, List.map_cons, List.map_nil, reduceIte, Option.map_some, Nat.reduceEqDiff, hf]
   ·have hf := aB [.row 5 1 0 ds]
    have hap := hap (H ++ [.row 5 1 0 ds])
    have y4 : aJ (H ++ [.row 5 1 0 ds]) 1 (.row H.length 0 0 ds.length false) = some ds := by simp [aJ, vw]
    simp only [List.append_assoc, List.length_append, List.length_cons, List.length_nil, Nat.zero_add, List.cons_append, List.nil_append] at hf hap
    rw [ZO (X := X) _ rX _ rfl rfl]; unfold rX
    refine rn (sJ @c @c' @m1 @w1 @m2 @w2 @m3 @w3 @m4 @w4 @w5 @w6 @w7 @w8 @mj @y1 @y2 @y3 @y4 @y5 @hap) ?_
    simp only [Zw, Yc, lk, Za, List.map_cons, List.map_nil, reduceIte, Option.map_some, Nat.reduceEqDiff, hf]
theorem xH {H : Zb} {l : List Nat} : fin H (H ++ [.row 5 1 0 (l.map bD)]) [.row H.length 0 0 (l.map bD).length false] = (.fresh 5 1 (l.map bD), H) := sI
theorem yu {n : Nat} (hn : n < 9223372036854775808) (H : Zb) : ∃ R, E X 37 [.int .i64 n] H = some (R, H) ∧ zB R (ax n) := by
 obtain ⟨A, hA⟩ : ∃ A, A = n / 2 := ⟨_, rfl⟩
 obtain ⟨O, hO⟩ : ∃ O, O = n % 2 := ⟨_, rfl⟩
 obtain ⟨R, mj, hR⟩ := yo A A O H (Nat.le_refl _) (by omega) (by omega)
 rw [show 2 * A + O = n by omega] at hR
 have c' : ¬ (n : Int) < 0 := by omega
 have m2 : (n : Int).tdiv 2 = (A : Int) := by rw [Int.tdiv_eq_ediv_of_nonneg (by omega)]; omega
 have w2 : IntKind.i64.wrap (A : Int) = (A : Int) := wrap64 _ (by omega) (by omega)
 have m3 : (n : Int).tmod 2 = (O : Int) := by rw [Int.tmod_eq_emod_of_nonneg (by omega)]; omega
 have w3 : IntKind.i64.wrap (O : Int) = (O : Int) := wrap64 _ (by omega) (by omega)
 refine ⟨R, ?_, hR⟩
 have hf := xH (H := H) (l := ax n)
 clear hA hO
 rcases hR with rfl | rfl
 ·generalize (ax n).map bD = ds at *
  rw [ZO (X := X) _ BZ _ rfl rfl]; unfold BZ; exact rg (jP @c' @m2 @w2 @m3 @w3 @mj)
 ·generalize (ax n).map bD = ds at *
  rw [ZO (X := X) _ BZ _ rfl rfl]; unfold BZ
  refine rn (jP @c' @m2 @w2 @m3 @w3 @mj) ?_
  simp only [Zw, Yc, lk, Za, List.map_cons, List.map_nil, reduceIte, Option.map_some, Nat.reduceEqDiff, hf]
theorem Kq {n : Int} (h1 : -9223372036854775808 ≤ n) (h2 : n ≤ 9223372036854775807) (H : Zb) : ∃ R, E X 64 [.int .i64 n] H = some (R, H) ∧ zB R (ax (eV n)) := by
 have hf := xH (H := H) (l := ax (eV n))
 unfold eV at *
 by_cases c : n < 0
 ·rw [if_neg (by omega)] at *
  obtain ⟨A, hA⟩ : ∃ A, A = (-(n + 1)).toNat := ⟨_, rfl⟩
  rw [← hA] at hf ⊢
  obtain ⟨R, mj, hR⟩ := yo A A 1 H (Nat.le_refl _) (by omega) (by omega)
  have w1 : IntKind.i64.wrap (n + 1) = n + 1 := wrap64 _ (by omega) (by omega)
  have w2 : IntKind.i64.wrap (-(n + 1)) = (A : Int) := wr
  refine ⟨R, ?_, hR⟩
  rw [show ((1 : Nat) : Int) = 1 from rfl] at mj
  clear hA
  rcases hR with rfl | rfl
  ·generalize (ax (2 * A + 1)).map bD = ds at *
   rw [ZO (X := X) _ rW _ rfl rfl]; unfold rW; exact rg (d8 @c @w1 @w2 @mj)
  ·generalize (ax (2 * A + 1)).map bD = ds at *
   rw [ZO (X := X) _ rW _ rfl rfl]; unfold rW
   refine rn (d8 @c @w1 @w2 @mj) ?_
   simp only [Zw, Yc, lk, Za, List.map_cons, List.map_nil, reduceIte, Option.map_some, Nat.reduceEqDiff, hf]
 ·rw [if_pos (by omega)] at hf ⊢
  obtain ⟨A, rfl⟩ : ∃ A : Nat, n = A := ⟨n.toNat, by omega⟩
  rw [Int.toNat_natCast] at hf ⊢
  obtain ⟨R, mj, hR⟩ := yo A A 0 H (Nat.le_refl _) (by omega) (by omega)
  refine ⟨R, ?_, hR⟩
  rw [show ((0 : Nat) : Int) = 0 from rfl] at mj
  rw [Nat.add_zero] at hR
  rcases hR with rfl | rfl
  ·generalize (ax (2 * A)).map bD = ds at *
   rw [ZO (X := X) _ rW _ rfl rfl]; unfold rW; exact rg (cC @c @mj)
  ·generalize (ax (2 * A)).map bD = ds at *
   rw [ZO (X := X) _ rW _ rfl rfl]; unfold rW
   refine rn (cC @c @mj) ?_
   simp only [Zw, Yc, lk, Za, List.map_cons, List.map_nil, reduceIte, Option.map_some, Nat.reduceEqDiff, hf]
def iP (R : DV) (l : List Nat) : Prop := (R = .nils ∧ l = []) ∨ ∃ c, R = .list 1 (l.map bD) c
theorem aC.bt {R : DV} {bs : List Nat} (h : aC R bs) : iP R bs := by
 rcases h with h | h
 ·exact .inl h
 ·exact .inr ⟨_, h⟩
theorem iP.vw {R : DV} {bs : List Nat} (h : iP R bs) (g : Zb) : vw g 1 R = some (bs.map bD) := by
 rcases h with ⟨rfl, rfl⟩ | ⟨c, rfl⟩ <;> rfl
theorem iP.one {R : DV} {bs : List Nat} (h : iP R bs) : R.one = true := by
 rcases h with ⟨rfl, rfl⟩ | ⟨c, rfl⟩ <;> rfl
theorem iP.src {R : DV} {bs : List Nat} (h : iP R bs) (g : Zb) : aJ g 1 R = some (bs.map bD) := by
 rcases h with ⟨rfl, rfl⟩ | ⟨c, rfl⟩ <;> rfl
set_option maxHeartbeats 1000000 in
theorem Ky {v : V} (hm : aG v = true) (hi : lh v) (H : Zb) : ∃ R, E X 38 [v.d] H = some (.tup [R, .int .i64 0], H) ∧ iP R (vB v) := by
 obtain ⟨H1, eu⟩ : ∃ H1, H1 = H ++ [HO.box 34 [.int .i64 v.k, .int .i64 v.n, .str v.s, .bool v.t]] := ⟨_, rfl⟩
 have ht1 : H1.take H.length = H := by rw [eu]; simp
 have rK := fun g => El v g
 rw [hm] at rK
 rcases mL hm with hk | hk | hk | hk
 ·refine ⟨.nils, ?_, .inl ⟨rfl, by simp [vB, hk]⟩⟩
  clear hm hi eu ht1
  obtain ⟨vk, vn, vs', vt⟩ := v
  simp only [V.d] at *
  subst hk
  rw [ZO (X := X) _ jG _ rfl rfl]; unfold jG; exact kQ @rK
 ·obtain ⟨R, Ma, hR⟩ := Kq hi.1 hi.2 H1
  have hvb : vB v = ax (eV v.n) := by simp [vB, hk]
  have hg := ja (T := 5) (Hb := H) ht1 (ax (eV v.n))
  obtain ⟨R2, aB, oI⟩ := kD hg 0
  rw [hvb]
  clear hm hi hg hvb
  rcases hR with rfl | rfl
  ·refine ⟨_, ?_, .inr ⟨true, rfl⟩⟩
   clear aB
   generalize (ax (eV v.n)).map bD = ds at *
   obtain ⟨vk, vn, vs', vt⟩ := v
   simp only [V.d] at *
   subst hk
   subst eu
   rw [ZO (X := X) _ jG _ rfl rfl]; unfold jG; exact kQ (cC @rK @Ma)
  ·refine ⟨R2, ?_, oI.bt⟩
   clear oI
   generalize (ax (eV v.n)).map bD = ds at *
   obtain ⟨vk, vn, vs', vt⟩ := v
   simp only [V.d] at *
   subst hk
   subst eu
   simp only [List.append_assoc, List.length_append, List.length_cons, List.length_nil, Nat.zero_add, List.cons_append, List.nil_append] at aB
   rw [ZO (X := X) _ jG _ rfl rfl]; unfold jG
   refine aT (cC @rK @Ma) ?_
   simp only [Zw, Yc, lk, Za, List.map_cons, List.map_nil, reduceIte, Option.map_some, Nat.reduceEqDiff, aB]
 ·have MN := su hm hk
  obtain ⟨R, rO, hR⟩ := yu (n := v.s.size) (by omega) H1
  have hvb : vB v = ax v.s.size ++ v.s.data.toList.map UInt8.toNat := by simp [vB, hk]
  have h10 := da (u := v.s.size) (by omega)
  have hsl : v.s.data.toList.length = v.s.size := by simp
  have oH : bytesOf v.s = (v.s.data.toList.map UInt8.toNat).map bD := ng _
  have y5 : ∀ h, aJ h 1 (.list 1 (bytesOf v.s) false) = some (bytesOf v.s) := fun _ => rfl
  have hg := ja (T := 5) (Hb := H) ht1 (ax v.s.size)
  obtain ⟨d3, h3, ha, eH⟩ := hg.app 1 (bytesOf v.s) (by rw [oH]; simp only [List.length_map]; omega)
  have hw := hg.vw
  rw [oH, ← List.map_append, ← hvb] at eH
  obtain ⟨R2, aB, oI⟩ := kD eH 0
  have yT : iP R2 (vB v) := oI.bt
  have kp := Zm H1 [HO.row 5 1 0 ((ax v.s.size).map bD)] (.row H1.length 0 0 ((ax v.s.size).map bD).length false)
  rcases hR with rfl | rfl
  ·by_cases hb0 : bytesOf v.s = []
   ·have ha2 : ∀ g, aX g 5 1 1 (.list 1 ((ax v.s.size).map bD) true) ((ax v.s.size).map bD) (bytesOf v.s) = some (.list 1 ((ax v.s.size).map bD) true, g) := fun g => by rw [hb0]; simp [aX]
    rw [oH, List.map_eq_nil_iff] at hb0
    refine ⟨.list 1 ((ax v.s.size).map bD) true, ?_, .inr ⟨true, by rw [hvb, hb0, List.append_nil]⟩⟩
    clear aB oI yT ha hw kp hg eH hvb oH hb0 hi hm hsl h10
    generalize (ax v.s.size).map bD = ds at *
    obtain ⟨vk, vn, vs', vt⟩ := v
    simp only [V.d] at *
    subst hk
    subst eu
    have y4 : ∀ h, vw h 1 (.list 1 ds true) = some ds := fun _ => rfl
    rw [ZO (X := X) _ jG _ rfl rfl]; unfold jG; exact kQ (jP @rK @rO @ha2 @y4 @y5 @Zf)
   ·obtain ⟨H2, A7⟩ : ∃ H2, H2 = H1 ++ [HO.row 5 1 0 ((vB v).map bD)] := ⟨_, rfl⟩
    have LK := ja (T := 5) (Hb := H) ht1 (vB v)
    obtain ⟨R3, EJ, LR⟩ := kD LK 0
    have ha2 : aX H1 5 1 1 (.list 1 ((ax v.s.size).map bD) true) ((ax v.s.size).map bD) (bytesOf v.s) = some (.row H1.length 0 0 ((vB v).map bD).length false, H1 ++ [.row 5 1 0 ((vB v).map bD)]) := by
     simp only [aX, if_neg hb0]
     rw [if_pos (by rw [oH]; simp only [List.length_map]; omega), hvb, List.map_append, List.length_append, oH]
    refine ⟨R3, ?_, LR.bt⟩
    clear aB oI yT ha hw kp hg eH LK hvb oH hb0 hi hm hsl h10 A7 LR
    generalize (ax v.s.size).map bD = ds at *
    generalize (vB v).map bD = vs at *
    obtain ⟨vk, vn, vs', vt⟩ := v
    simp only [V.d] at *
    subst hk
    subst eu
    have y4 : ∀ h, vw h 1 (.list 1 ds true) = some ds := fun _ => rfl
    simp only [List.append_assoc, List.length_append, List.length_cons, List.length_nil, Nat.zero_add, List.cons_append, List.nil_append] at EJ ha2
    rw [ZO (X := X) _ jG _ rfl rfl]; unfold jG
    refine aT (jP @rK @rO @ha2 @y4 @y5 @Zf) ?_
    simp only [Zw, Yc, lk, Za, List.map_cons, List.map_nil, reduceIte, Option.map_some, Nat.reduceEqDiff, EJ]
  ·refine ⟨R2, ?_, yT⟩
   clear oI yT hg eH hvb oH hi hm hsl h10
   generalize (ax v.s.size).map bD = ds at *
   obtain ⟨vk, vn, vs', vt⟩ := v
   simp only [V.d] at *
   subst hk
   subst eu
   simp only [List.append_assoc, List.length_append, List.length_cons, List.length_nil, Nat.zero_add, List.cons_append, List.nil_append] at hw ha kp
   rw [ZO (X := X) _ jG _ rfl rfl]; unfold jG
   refine aT (kE @rK @rO @ha @hw @kp @y5 @Zf) ?_
   simp only [Zw, Yc, lk, Za, List.map_cons, List.map_nil, reduceIte, Option.map_some, Nat.reduceEqDiff, aB]
 ·have y1 : ∀ (a : Int) h, cM [.int .u8 a] h = some ([.int .u8 a], h) := fun _ _ => rfl
  have y2 : ∀ a, Wc 1 (.int .u8 a) := fun a => by simp [Wc, DV.cells, DV.one]
  have y3 : ∀ a, Nr (.int .u8 a) := fun a => .int _ _
  cases hT : v.t
  ·refine ⟨.list 1 [.int .u8 0] true, ?_, .inr ⟨true, by simp [vB, hk, hT]⟩⟩
   clear hm hi eu ht1
   obtain ⟨vk, vn, vs', vt⟩ := v
   simp only [V.d] at *
   subst hk
   subst hT
   rw [ZO (X := X) _ jG _ rfl rfl]; unfold jG; exact kQ (d8 @rK @y1 @y2 @y3)
  ·refine ⟨.list 1 [.int .u8 1] true, ?_, .inr ⟨true, by simp [vB, hk, hT]⟩⟩
   clear hm hi eu ht1
   obtain ⟨vk, vn, vs', vt⟩ := v
   simp only [V.d] at *
   subst hk
   subst hT
   rw [ZO (X := X) _ jG _ rfl rfl]; unfold jG; exact kQ (d8 @rK @y1 @y2 @y3)
set_option maxHeartbeats 1000000 in
theorem HB {Hb : Zb} {n : Int} {D B : DV} {ys : List V} {b : Nat} (hb : Hb[b]? = some (.box 25 [.int .i64 n, D, B])) (hD : ∀ g, vw g 4 D = some (ys.map V.d)) (cT : D.one = true) (hm : ∀ v ∈ ys, aG v = true) (hi : ∀ v ∈ ys, lh v) (iC : ys.length ≤ 256) :
 ∀ (q i : Nat) (h : Zb) (d : DV) (l : List Nat), ys.length - i ≤ q → i ≤ ys.length → l.length ≤ 100 + i * 100 → cE 5 1 Hb h d (l.map bD) → ∃ ex h' d', C X (.loop lS) [(1, .ref b 0), (6, d), (7, .int .i64 i)] h = some (.exit 0, (1, .ref b 0) :: (6, d') :: ex, h') ∧ cE 5 1 Hb h' d' ((l ++ eN (ys.drop i)).map bD) ∧ (l ++ eN (ys.drop i)).length ≤ 100 + ys.length * 100 := by
 intro q
 induction q with
 | zero =>
  intro i h d l hq hk hl hg
  obtain rfl : i = ys.length := by omega
  have hb' := jX hg.1 hb
  refine ⟨[(7, .int .i64 ys.length), (29, .bool false)], h, d, ?_, by rw [List.drop_length]; simpa [eN] using hg, by rw [List.drop_length]; simpa [eN] using hl⟩
  clear hg
  rw [Zx]
  unfold lS
  refine aT (ew @hb' @hD @cT) ?_
  rw [ZS]
  simp [Za, lk]
 | succ q ih =>
  intro i h d l hq hk hl hg
  by_cases c : i < ys.length
  case neg => exact ih i h d l (by omega) hk hl hg
  obtain ⟨I, hI⟩ : ∃ I, I = i + 1 := ⟨_, rfl⟩
  have z1 : IntKind.i64.wrap ((i : Int) + 1) = (I : Int) := wr
  obtain ⟨v, hv⟩ : ∃ v, v = ys[i] := ⟨_, rfl⟩
  have qX := hm v (by rw [hv]; exact List.getElem_mem c)
  have iT := hi v (by rw [hv]; exact List.getElem_mem c)
  have hvs := hv.symm
  have ve : ys[i]? = some v := by rw [hv]; exact List.getElem?_eq_getElem c
  obtain ⟨K, hK⟩ : ∃ K : Nat, K = v.k.toNat := ⟨_, rfl⟩
  have AR : v.k = (K : Int) ∧ K < 4 := by rcases mL qX with h | h | h | h <;> omega
  have m2 : IntKind.u8.wrap v.k = (K : Int) := by rw [AR.1]; exact gb (by omega)
  have eR := jX hg.1 hb
  have hw := hg.vw
  obtain ⟨d2, h2, ha, hg2⟩ := hg.app 1 [bD K] (by simp only [List.length_map, List.length_cons, List.length_nil]; omega)
  rw [show l.map bD ++ [bD K] = (l ++ [K]).map bD by simp] at hg2
  have hw2 := hg2.vw
  have hvl := uq qX iT
  obtain ⟨R, I4, hR⟩ := Ky qX iT h
  have Ox := hR.src
  have AY := hR.one
  obtain ⟨d3, h3, ha2, eH⟩ := hg2.app 1 ((vB v).map bD) (by simp only [List.length_map, List.length_append, List.length_cons, List.length_nil]; omega)
  rw [← List.map_append] at eH
  have pQ : eN (ys.drop i) = K :: vB v ++ eN (ys.drop I) := by
   rw [hI, List.drop_eq_getElem_cons c, ← hv, hK]
   simp [eN]
  obtain ⟨ex, h', d', hc, hg', hl'⟩ := ih I h3 d3 ((l ++ [K]) ++ vB v) (by omega) (by omega) (by simp only [List.length_append, List.length_cons, List.length_nil]; omega) eH
  have hls : ((l ++ [K]) ++ vB v) ++ eN (ys.drop I) = l ++ eN (ys.drop i) := by rw [pQ]; simp
  rw [hls] at hg' hl'
  refine ⟨ex, h', d', ?_, hg', hl'⟩
  have y1 : ∀ h, cM [bD K] h = some ([bD K], h) := fun _ => rfl
  have y2 : Wc 1 (bD K) := by simp [Wc, DV.cells, DV.one]
  have y3 : Nr (bD K) := .int _ _
  have y4 : ∀ h, aJ h 1 (.list 1 [bD K] true) = some [bD K] := fun _ => rfl
  have iX := dS hg2
  have l6 := dS eH
  have hs : C X lS [(1, .ref b 0), (6, d), (7, .int .i64 i)] h = some (.norm, [(1, .ref b 0), (6, d3), (7, .int .i64 I)], h3) := by
   clear ih hg hg2 eH hc hg' hl' hls pQ hm hi qX iT hvl AR hl hR hb
   generalize l.map bD = xs at *
   generalize (l ++ [K]).map bD = DY at *
   generalize (vB v).map bD = vs at *
   obtain ⟨vk, vn, vs', vt⟩ := v
   simp only [V.d] at *
   unfold lS
   refine aT (sJ @c @z1 @hD @ve @hvs @m2 @eR @hw @ha @hw2 @ha2 @I4 @Ox @AY @cT @iX @l6 @y1 @y2 @y3 @y4) ?_
   simp [Za, lk]
  rw [Zx, hs, ZZ]
  exact hc
set_option maxHeartbeats 2000000 in
open Classical in
theorem Gw {H : Zb} {n : Nat} {D B : DV} {ys : List V} {bs : List Nat} (hok : dU n ys bs) (hD : df D ys) (cH : ys.length ≤ 200) (gL : ∀ x ∈ ys, Sm x) (hB : aC B bs) (bb : BB bs) (hbb : bs.length ≤ 10000) (hi : ∀ v ∈ ys, lh v) : ∃ R, E X 17 [aI n D B] H = some (.tup [R, .int .i64 0], H) ∧ aC R (zi n ys bs) := by
 obtain ⟨Hb, oL⟩ : ∃ Hb, Hb = H ++ [HO.box 25 [.int .i64 n, D, B]] := ⟨_, rfl⟩
 have hbt : Hb.take H.length = H := by rw [oL]; simp
 have eR : Hb[H.length]? = some (.box 25 [.int .i64 n, D, B]) := by rw [oL]; simp
 obtain ⟨R0, e7, jy⟩ := uC (H := Hb) (n := (n : Int)) hD cH gL hB bb hbb
 have sD : R0.one = true := by
  rcases jy with ⟨_, h⟩ | ⟨h, _⟩
  ·rcases h with ⟨rfl, _⟩ | rfl <;> rfl
  ·exact absurd hok h
 rw [decide_eq_true hok] at e7
 obtain ⟨hn, hC⟩ := hok.col hD (by omega) hB bb
 have hnb := hok.2.1
 have aU := hD.vw
 have xD := hB.vw
 have dz : B.one = true := hB.one'
 have cT := hD.one
 have h10 := da (u := n) (by omega)
 have IJ := da (u := ys.length) (by omega)
 have hsB : ∀ g, aJ g 1 B = some (bs.map bD) := fun g => by
  rcases hB with ⟨rfl, rfl⟩ | rfl <;> rfl
 have key : ∀ h d, cE 5 1 Hb h d ((ax n ++ ax ys.length).map bD) → ∃ ex h' d' d3 h3 R xs, C X (.loop lS) [(1, .ref H.length 0), (6, d), (7, .int .i64 0)] h = some (.exit 0, (1, .ref H.length 0) :: (6, d') :: ex, h') ∧ h'[H.length]? = some (.box 25 [.int .i64 n, D, B]) ∧ vw h' 1 d' = some xs ∧ d'.one = true ∧ aX h' 5 1 1 d' xs (bs.map bD) = some (d3, h3) ∧ fin H h3 [d3, .int .i64 0] = (.tup [R, .int .i64 0], H) ∧ aC R (zi n ys bs) := by
  intro h d hg0
  obtain ⟨ex, h', d', hc, hg, hl⟩ := HB eR aU cT hC.may hi (by omega) ys.length 0 _ _ _ (by omega) (by omega) (by rw [List.length_append]; omega) hg0
  rw [show ((0 : Nat) : Int) = 0 from rfl] at hc
  rw [List.drop_zero] at hg hl
  obtain ⟨d3, h3, ha, eH⟩ := hg.app 1 (bs.map bD) (by simp only [List.length_map]; omega)
  have hgB := eH.base (H := H) hbt
  rw [← List.map_append, ← sN] at hgB
  obtain ⟨R, aB, hR⟩ := kD hgB 0
  exact ⟨ex, h', d', d3, h3, R, _, hc, jX hg.1 eR, hg.vw, dS hg, ha, aB, hR⟩
 have rO := fun g => yu (n := n) (by omega) g
 have sL := fun g => yu (n := ys.length) (by omega) g
 have hdn : ax ys.length ≠ [] := vU _
 have LP : (ax ys.length).map bD ≠ [] := by simp [hdn]
 have yJ : (((ax n).map bD).length + ((ax ys.length).map bD).length) * 1 ≤ 140737488355328 := by simp only [List.length_map]; omega
 obtain ⟨R1, e1, AZ⟩ := rO Hb
 rcases AZ with rfl | rfl
 ·obtain ⟨R2, e2, oI⟩ := sL Hb
  have hown : kL 5 Hb Hb (.list 1 ((ax n).map bD) true) ((ax n).map bD) := .inr ⟨List.take_length, .inl ⟨_, _, rfl⟩, rfl⟩
  have y4 : ∀ h, vw h 1 (.list 1 ((ax n).map bD) true) = some ((ax n).map bD) := fun _ => rfl
  rcases oI with rfl | rfl
  ·obtain ⟨d, h, ha0, hg0⟩ := hown.app 1 _ LP yJ
   rw [← List.map_append] at hg0
   obtain ⟨ex, h', d', d3, h3, R, xs, hc, k1, k2, k3, k4, k5, k6⟩ := key h d hg0
   refine ⟨R, ?_, k6⟩
   have eE := dS hg0
   clear hg0 k6 hok hC hi hD hB bb gL key rO sL hown jy
   have y5 : ∀ h, aJ h 1 (.list 1 ((ax ys.length).map bD) true) = some ((ax ys.length).map bD) := fun _ => rfl
   generalize (ax n).map bD = ns at *
   generalize (ax ys.length).map bD = ms at *
   generalize bs.map bD = zs at *
   subst oL
   unfold aI at *
   rw [ZO (X := X) _ o4 _ rfl rfl]; unfold o4
   refine aT (lm @e7 @e1 @e2 @ha0 @y4 @y5 @Zf @aU @cT @dz @eE @sD) ?_
   refine aD ?_
   rw [hc]
   refine aT (kE @k1 @k2 @k3 @k4 @hsB @dz @cT) ?_
   simp only [Zw, Yc, lk, Za, List.map_cons, List.map_nil, reduceIte, Option.map_some, Nat.reduceEqDiff, k5]
  ·have EE : kL 5 Hb (Hb ++ [.row 5 1 0 ((ax ys.length).map bD)]) (.list 1 ((ax n).map bD) true) ((ax n).map bD) := .inr ⟨by simp, .inl ⟨_, _, rfl⟩, rfl⟩
   obtain ⟨d, h, ha0, hg0⟩ := EE.app 1 _ LP yJ
   rw [← List.map_append] at hg0
   obtain ⟨ex, h', d', d3, h3, R, xs, hc, k1, k2, k3, k4, k5, k6⟩ := key h d hg0
   refine ⟨R, ?_, k6⟩
   have eE := dS hg0
   clear hg0 k6 hok hC hi hD hB bb gL key rO sL hown EE jy
   have y5 : aJ (Hb ++ [.row 5 1 0 ((ax ys.length).map bD)]) 1 (.row Hb.length 0 0 ((ax ys.length).map bD).length false) = some ((ax ys.length).map bD) := by simp [aJ, vw, List.take_of_length_le]
   generalize (ax n).map bD = ns at *
   generalize (ax ys.length).map bD = ms at *
   generalize bs.map bD = zs at *
   subst oL
   unfold aI at *
   simp only [List.append_assoc, List.length_append, List.length_cons, List.length_nil, Nat.zero_add, List.cons_append, List.nil_append] at ha0 y5
   rw [ZO (X := X) _ o4 _ rfl rfl]; unfold o4
   refine aT (lm @e7 @e1 @e2 @ha0 @y4 @y5 @Zf @aU @cT @dz @eE @sD) ?_
   refine aD ?_
   rw [hc]
   refine aT (kE @k1 @k2 @k3 @k4 @hsB @dz @cT) ?_
   simp only [Zw, Yc, lk, Za, List.map_cons, List.map_nil, reduceIte, Option.map_some, Nat.reduceEqDiff, k5]
 ·obtain ⟨H2, A7⟩ : ∃ H2, H2 = Hb ++ [HO.row 5 1 0 ((ax n).map bD)] := ⟨_, rfl⟩
  have rq := ja (T := 5) (Hb := Hb) (h := Hb) List.take_length (ax n)
  rw [← A7] at rq
  obtain ⟨R2, e2, oI⟩ := sL H2
  have kp := Zm Hb [HO.row 5 1 0 ((ax n).map bD)] (.row Hb.length 0 0 ((ax n).map bD).length false)
  have pK := rq.vw
  rcases oI with rfl | rfl
  ·obtain ⟨d, h, ha0, hg0⟩ := rq.app 1 _ yJ
   rw [← List.map_append] at hg0
   obtain ⟨ex, h', d', d3, h3, R, xs, hc, k1, k2, k3, k4, k5, k6⟩ := key h d hg0
   refine ⟨R, ?_, k6⟩
   have eE := dS hg0
   clear hg0 rq k6 hok hC hi hD hB bb gL key rO sL jy
   have y5 : ∀ h, aJ h 1 (.list 1 ((ax ys.length).map bD) true) = some ((ax ys.length).map bD) := fun _ => rfl
   generalize (ax n).map bD = ns at *
   generalize (ax ys.length).map bD = ms at *
   generalize bs.map bD = zs at *
   subst A7
   subst oL
   unfold aI at *
   simp only [List.append_assoc, List.length_append, List.length_cons, List.length_nil, Nat.zero_add, List.cons_append, List.nil_append] at ha0 e2 kp pK
   rw [ZO (X := X) _ o4 _ rfl rfl]; unfold o4
   refine aT (mU @e7 @e1 @e2 @ha0 @kp @pK @y5 @Zf @aU @cT @dz @eE @sD) ?_
   refine aD ?_
   rw [hc]
   refine aT (kE @k1 @k2 @k3 @k4 @hsB @dz @cT) ?_
   simp only [Zw, Yc, lk, Za, List.map_cons, List.map_nil, reduceIte, Option.map_some, Nat.reduceEqDiff, k5]
  ·have C7 := rq.ext [.row 5 1 0 ((ax ys.length).map bD)]
   obtain ⟨d, h, ha0, hg0⟩ := C7.app 1 _ yJ
   rw [← List.map_append] at hg0
   obtain ⟨ex, h', d', d3, h3, R, xs, hc, k1, k2, k3, k4, k5, k6⟩ := key h d hg0
   refine ⟨R, ?_, k6⟩
   have eE := dS hg0
   have Lj := C7.vw
   clear hg0 rq C7 k6 hok hC hi hD hB bb gL key rO sL jy pK
   have y5 : aJ (H2 ++ [.row 5 1 0 ((ax ys.length).map bD)]) 1 (.row H2.length 0 0 ((ax ys.length).map bD).length false) = some ((ax ys.length).map bD) := by simp [aJ, vw, List.take_of_length_le]
   generalize (ax n).map bD = ns at *
   generalize (ax ys.length).map bD = ms at *
   generalize bs.map bD = zs at *
   subst A7
   subst oL
   unfold aI at *
   simp only [List.append_assoc, List.length_append, List.length_cons, List.length_nil, Nat.zero_add, List.cons_append, List.nil_append] at ha0 e2 kp Lj y5
   rw [ZO (X := X) _ o4 _ rfl rfl]; unfold o4
   refine aT (mU @e7 @e1 @e2 @ha0 @kp @Lj @y5 @Zf @aU @cT @dz @eE @sD) ?_
   refine aD ?_
   rw [hc]
   refine aT (kE @k1 @k2 @k3 @k4 @hsB @dz @cT) ?_
   simp only [Zw, Yc, lk, Za, List.map_cons, List.map_nil, reduceIte, Option.map_some, Nat.reduceEqDiff, k5]
open Classical in
theorem Gx {H : Zb} {n : Int} {D B : DV} {ys : List V} {bs : List Nat} (hno : ¬ dU n ys bs) (hD : df D ys) (cH : ys.length ≤ 200) (gL : ∀ x ∈ ys, Sm x) (hB : aC B bs) (bb : BB bs) (hbb : bs.length ≤ 10000) : E X 17 [aI n D B] H = some (.tup [.nils, .int .i64 1], H) := by
 obtain ⟨R0, e7, jy⟩ := uC (H := H ++ [HO.box 25 [.int .i64 n, D, B]]) (n := n) hD cH gL hB bb hbb
 rw [decide_eq_false hno] at e7
 have M9 : R0 = .nils := by
  rcases jy with ⟨h, _⟩ | ⟨_, h⟩
  ·exact absurd h hno
  ·exact h
 subst M9
 unfold aI at *
 clear jy hno hD hB bb gL
 rw [ZO (X := X) _ o4 _ rfl rfl]; unfold o4; exact kQ @e7
end Go.Proofs.YteekbciaggmfgaaDoor
