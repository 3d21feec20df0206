/- Ideal runs. -/
import Derived.Test.YteekbciaggmfgaaDoorStep
import Derived.Test.YteekbciaggmfgaaDoorColL
import Derived.Test.YteekbciaggmfgaaDoorNumP
import Derived.Test.YteekbciaggmfgaaDoorColT
import Derived.Test.YteekbciaggmfgaaDoorColX
import Derived.Test.YteekbciaggmfgaaDoorColAt
namespace Go.Proofs.YteekbciaggmfgaaDoor
attribute [local go_sem] ZF Zy ZA ZB Zp Zf Zm Zi Zk Zc Zd Zj Zq Zr ZC Zo Zg Zz Zu Zt ZR Zv Yj put lk Od.v Za Ze Zl Yv Yb Ya Yd ai Yt DV.isU DV.cells ae ZJ ZX ZK Zn splice ZM af ZT Ys bz bR bL bf bP bu aZ bn bN bg bQ bj bq bh bU bV bK aQ aR
attribute [local go_sem ↓] Zh
set_option linter.unusedVariables false
set_option linter.unusedSimpArgs false
set_option linter.unusedSectionVars false
set_option maxRecDepth 10000
theorem FA {R T F : DV} {il : List Nat} {n : Nat} {h : Zb} (hR : ∀ g, vw g 1 R = some (il.map iD)) (hn : il.length = n) (hb : n ≤ 4096) :
 ∀ (k i : Nat), n - i ≤ k → i ≤ n → ∃ ex, C X (.loop fK) [(1, F), (4, T), (6, .bool false), (7, .nils), (15, R), (16, .int .i64 n), (17, .int .i64 i)] h = some (.exit 0, (1, F) :: (4, T) :: (6, .bool false) :: (7, .nils) :: ex, h) := by
 intro k
 induction k with
 | zero =>
  intro i hk hi
  obtain rfl : i = n := by omega
  refine ⟨[(15, R), (16, .int .i64 i), (17, .int .i64 i), (18, .bool false)], ?_⟩
  rw [Zx]
  unfold fK
  refine rn trivial ?_
  rw [ZS]
  simp [Za, lk]
 | succ k ih =>
  intro i hk hi
  by_cases c : i < n
  ·obtain ⟨I, hI⟩ : ∃ I, I = i + 1 := ⟨_, rfl⟩
   have z1 : IntKind.i64.wrap ((i : Int) + 1) = (I : Int) := wr
   have c' : i < il.length := by omega
   obtain ⟨p, dF⟩ : ∃ p, p = il[i] := ⟨_, rfl⟩
   have eG := dF.symm
   have hs : C X fK [(1, F), (4, T), (6, .bool false), (7, .nils), (15, R), (16, .int .i64 n), (17, .int .i64 i)] h = some (.norm, [(1, F), (4, T), (6, .bool false), (7, .nils), (15, R), (16, .int .i64 n), (17, .int .i64 I)], h) := by
    clear ih
    unfold fK
    refine aT (mh @c @c' @z1 @hR @eG) ?_
    simp [Za, lk]
   rw [Zx, hs, ZZ]
   exact ih I (by omega) (by omega)
  ·exact ih i (by omega) hi
theorem Gm {H : Zb} {n : Int} {F D B : DV} {ys : List V} {bs : List Nat} (hF : F.one = true) (hD : df D ys) (cH : ys.length ≤ 256) (hB : aC B bs) (bb : BB bs) (hno : ¬ dU n ys bs) :
 ∃ W, E X 33 [aI n D B, F] H = some (.agg [W], H) ∧ WL W (jk []) := by
 obtain ⟨Hs, jO⟩ : ∃ Hs, Hs = H ++ [HO.box 25 [.int .i64 n, D, B], .box 41 [.nils]] := ⟨_, rfl⟩
 obtain ⟨R, il, vQ, hR, hil, AY⟩ := uE (H := Hs) (n := n) hD cH hB bb hno
 obtain ⟨ex, hc⟩ := FA (h := Hs) (F := F) (T := .ref (H.length + 1) 0) hR rfl hil il.length 0 (by omega) (by omega)
 rw [show ((0 : Nat) : Int) = 0 from rfl] at hc
 obtain ⟨W, xM, hW⟩ := Ef (A := .nils) (l := []) (H := Hs) (fun _ => rfl) (by simp) (by simp)
 refine ⟨W, ?_, hW⟩
 have hone : W.one = true := by rcases hW with rfl | ⟨rfl, _⟩ <;> rfl
 have aB : fin H (H ++ [HO.box 25 [.int .i64 n, D, B], .box 41 [W]]) [.agg [W]] = (.agg [W], H) := rF hW (by simp)
 have f2 : (H ++ [HO.box 25 [.int .i64 n, D, B], .box 41 [W]])[H.length + 1]? = some (.box 41 [W]) := by simp [ae]
 subst jO
 clear hW hno bb hB hD
 unfold aI at *
 rw [ZO (X := X) _ B6 _ rfl rfl]; unfold B6
 refine ro (d8 @vQ @hR @hF @AY) ?_
 refine aD ?_
 rw [hc]
 refine ro (cC @xM @hone) ?_
 simp only [Zw, Yc, lk, Za, List.map_cons, List.map_nil, reduceIte, Option.map_some, Nat.reduceEqDiff]
 rw [Zl, f2]
 exact congrArg some aB
theorem GB {H : Zb} {n : Int} {D B : DV} {ys : List V} {bs : List Nat} (hD : df D ys) (cH : ys.length ≤ 256) (hB : aC B bs) (bb : BB bs) (hno : ¬ dU n ys bs) (lo hi : Int) :
 ∃ W, E X 14 [aI n D B, .int .i64 lo, .int .i64 hi] H = some (.agg [W], H) ∧ WL W (jk []) := by
 obtain ⟨Hs, jO⟩ : ∃ Hs, Hs = H ++ [HO.box 25 [.int .i64 n, D, B], .box 3 [.int .i64 lo], .box 3 [.int .i64 hi], .box 41 [.nils]] := ⟨_, rfl⟩
 obtain ⟨W, I2, hW⟩ := Gm (H := Hs) (n := n) (F := .func 34 [] [.ref (H.length + 1) 0, .ref (H.length + 2) 0]) rfl hD cH hB bb hno
 refine ⟨W, ?_, hW⟩
 subst jO
 have hone : W.one = true := by rcases hW with rfl | ⟨rfl, _⟩ <;> rfl
 have aB : fin H (H ++ [HO.box 25 [.int .i64 n, D, B], .box 3 [.int .i64 lo], .box 3 [.int .i64 hi], .box 41 [W]]) [.agg [W]] = (.agg [W], H) := rF hW (by simp)
 have f2 : (H ++ [HO.box 25 [.int .i64 n, D, B], .box 3 [.int .i64 lo], .box 3 [.int .i64 hi], .box 41 [W]])[H.length + 3]? = some (.box 41 [W]) := by simp [ae]
 unfold aI at *
 rw [ZO (X := X) _ Cd _ rfl rfl]; unfold Cd
 refine ro (cC @I2 @hone) ?_
 simp only [Zw, Yc, lk, Za, List.map_cons, List.map_nil, reduceIte, Option.map_some, Nat.reduceEqDiff]
 rw [Zl, f2]
 exact congrArg some aB
open Classical in
theorem Gs {H : Zb} {n : Int} {D B : DV} {ys : List V} {bs : List Nat} (hD : df D ys) (cH : ys.length ≤ 256) (hB : aC B bs) (bb : BB bs) (hno : ¬ dU n ys bs) :
 E X 20 [aI n D B] H = some (.tup [.agg [.int .i64 0, .int .i64 0, .str ⟨#[]⟩, .bool false], .agg [.int .i64 0, .int .i64 0, .str ⟨#[]⟩, .bool false], .bool false], H) := by
 have gO : ∀ g, E X 19 [.agg [.int .i64 n, D, B]] g = some (.bool false, g) := fun g => by
  have := qH (n := n) hD cH hB bb g
  rw [decide_eq_false hno] at this
  exact this
 have cT := hD.one
 have dz := hB.one'
 unfold aI
 clear hno hD hB bb
 rw [ZO (X := X) _ mC _ rfl rfl]; unfold mC; exact kQ (ew @gO @cT @dz)
def kz (lo hi : Int) (p : Nat) : Bool := decide (lo ≤ (p : Int)) && decide ((p : Int) < hi)
def zz (d : DV) (l : List Nat) : Prop := (d = .nils ∧ l = []) ∨ d = .fresh 3 1 (l.map iD)
theorem Am (l : List Nat) : zz (pq l) l := by
 unfold pq
 split
 ·rename_i h; exact .inl ⟨rfl, h⟩
 ·exact .inr rfl
theorem Dl {H h : Zb} {d : DV} {l : List Nat} (hg : cE 3 1 H h d (l.map iD)) : ∃ R, fin H h [d] = (R, H) ∧ zz R l := by
 rcases hg.fin (fun x hx => by obtain ⟨y, _, rfl⟩ := List.mem_map.1 hx; exact .int _ _) with ⟨rfl, h1⟩ | ⟨h0, h1⟩
 ·refine ⟨_, h1, .inl ⟨rfl, ?_⟩⟩
  rcases hg.2 with ⟨_, h2⟩ | ⟨g, o, h2, _⟩
  ·exact List.map_eq_nil_iff.1 h2
  ·cases h2
 ·exact ⟨_, h1, .inr rfl⟩
theorem HE {Hb : Zb} {R : DV} {il : List Nat} {n : Nat} {lo hi : Int} (hR : ∀ g, vw g 1 R = some (il.map iD)) (hn : il.length = n) (hb : n ≤ 4096) :
 ∀ (k i : Nat) (h : Zb) (d : DV), n - i ≤ k → i ≤ n → cE 3 1 Hb h d ((bE (kz lo hi) il i).map iD) → ∃ ex h' d', C X (.loop js) [(1, .int .i64 lo), (2, .int .i64 hi), (7, R), (9, d), (10, .int .i64 i)] h = some (.exit 0, (1, .int .i64 lo) :: (2, .int .i64 hi) :: (7, R) :: (9, d') :: ex, h') ∧ cE 3 1 Hb h' d' ((bE (kz lo hi) il n).map iD) := by
 intro k
 induction k with
 | zero =>
  intro i h d hk hi' hg
  obtain rfl : i = n := by omega
  refine ⟨[(10, .int .i64 i), (19, .bool false)], h, d, ?_, hg⟩
  clear hg
  rw [Zx]
  unfold js
  refine rn (cC @hR @hn) ?_
  rw [ZS]
  simp [Za, lk]
 | succ k ih =>
  intro i h d hk hi' hg
  by_cases c : i < n
  case neg => exact ih i h d (by omega) hi' hg
  obtain ⟨I, hI⟩ : ∃ I, I = i + 1 := ⟨_, rfl⟩
  have z1 : IntKind.i64.wrap ((i : Int) + 1) = (I : Int) := wr
  have c' : i < il.length := by omega
  have hrs := qI (kz lo hi) il i c'
  rw [← hI] at hrs
  obtain ⟨p, dF⟩ : ∃ p, p = il[i] := ⟨_, rfl⟩
  have eG := dF.symm
  rw [← dF] at hrs
  have hpi : il[i]? = some p := by rw [List.getElem?_eq_getElem c', dF]
  by_cases hh : kz lo hi p = true
  ·rw [if_pos hh] at hrs
   have h1 : lo ≤ (p : Int) := by simp [kz] at hh; exact hh.1
   have h2 : (p : Int) < hi := by simp [kz] at hh; exact hh.2
   have lX := kP (kz lo hi) il i
   obtain ⟨d2, h2', ha, hg2⟩ := hg.app 8 [iD i] (by simp only [List.length_map, List.length_cons, List.length_nil]; omega)
   rw [show (bE (kz lo hi) il i).map iD ++ [iD i] = (bE (kz lo hi) il I).map iD by rw [hrs]; simp] at hg2
   have hw := hg.vw
   obtain ⟨ex, h', d', hc, hg'⟩ := ih I h2' d2 (by omega) (by omega) hg2
   refine ⟨ex, h', d', ?_, hg'⟩
   have cz := dS hg
   have iX := dS hg2
   have y1 : ∀ (a : Int) h, cM [.int .i64 a] h = some ([.int .i64 a], h) := fun _ _ => rfl
   have y2 : ∀ a, Wc 1 (.int .i64 a) := fun a => by simp [Wc, DV.cells, DV.one]
   have y3 : ∀ a, Nr (.int .i64 a) := fun a => .int _ _
   have y4 : ∀ (a : Int) h, aJ h 1 (.list 1 [.int .i64 a] true) = some [.int .i64 a] := fun _ _ => rfl
   have ha : aX h 3 1 8 d ((bE (kz lo hi) il i).map iD) [.int .i64 i] = some (d2, h2') := ha
   have hs : C X js [(1, .int .i64 lo), (2, .int .i64 hi), (7, R), (9, d), (10, .int .i64 i)] h = some (.norm, [(1, .int .i64 lo), (2, .int .i64 hi), (7, R), (9, d2), (10, .int .i64 I)], h2') := by
    clear ih hg hg2 hg' hc hrs lX hh
    generalize (bE (kz lo hi) il i).map iD = cur at *
    unfold js
    refine aT (zb @c @c' @z1 @hR @hn @eG @hpi @h1 @h2 @hw @ha @cz @iX @y1 @y2 @y3 @y4) ?_
    simp [Za, lk]
   rw [Zx, hs, ZZ]
   exact hc
  ·rw [if_neg hh] at hrs
   have hs : C X js [(1, .int .i64 lo), (2, .int .i64 hi), (7, R), (9, d), (10, .int .i64 i)] h = some (.norm, [(1, .int .i64 lo), (2, .int .i64 hi), (7, R), (9, d), (10, .int .i64 I)], h) := by
    clear ih hg hrs
    by_cases h1 : lo ≤ (p : Int)
    ·have h2 : ¬ (p : Int) < hi := by simp [kz, h1] at hh; omega
     unfold js
     refine aT (jC @c @c' @z1 @hR @hn @eG @hpi @h1 @h2) ?_
     simp [Za, lk]
    ·unfold js
     refine aT (gN @c @c' @z1 @hR @hn @eG @hpi @h1) ?_
     simp [Za, lk]
   rw [Zx, hs, ZZ]
   exact ih I h d (by omega) (by omega) (by rw [hrs]; exact hg)
open Classical in
noncomputable def li (n : Int) (ys : List V) (bs : List Nat) (lo hi : Int) : List Nat := if dU n ys bs then bE (kz lo hi) (bF bs (wC ys.length) n.toNat) n.toNat else []
open Classical in
theorem KJ {H : Zb} {n : Int} {D B : DV} {ys : List V} {bs : List Nat} (hD : df D ys) (cH : ys.length ≤ 200) (gL : ∀ x ∈ ys, Sm x) (hB : aC B bs) (bb : BB bs) (hbb : bs.length ≤ 10000) (lo hi : Int) : ∃ d, E X 15 [aI n D B, .int .i64 lo, .int .i64 hi] H = some (d, H) ∧ zz d (li n ys bs lo hi) := by
 obtain ⟨H1, eu⟩ : ∃ H1, H1 = H ++ [HO.box 25 [.int .i64 n, D, B]] := ⟨_, rfl⟩
 have ht1 : H1.take H.length = H := by rw [eu]; simp
 obtain ⟨R, oN, hR⟩ := uC (H := H1) (n := n) hD cH gL hB bb hbb
 have key : ∀ (il : List Nat) (m : Nat), (∀ g, vw g 1 R = some (il.map iD)) → il.length = m → m ≤ 4096 → ∃ d, E X 15 [aI n D B, .int .i64 lo, .int .i64 hi] H = some (d, H) ∧ zz d (bE (kz lo hi) il m) := by
  intro il m jw hl hm
  obtain ⟨ex, h2, o2, hc, hg⟩ := HE (Hb := H1) (lo := lo) (hi := hi) jw hl hm m 0 H1 .nils (by omega) (by omega) cE.zero
  rw [show ((0 : Nat) : Int) = 0 from rfl] at hc
  obtain ⟨d, aB, hd⟩ := Dl (hg.base ht1)
  refine ⟨d, ?_, hd⟩
  clear hg hR ht1 hd
  obtain ⟨ok, oN⟩ : ∃ ok, E X 7 [aI n D B] H1 = some (.tup [R, .bool ok], H1) := ⟨_, oN⟩
  subst eu
  unfold aI at *
  rw [ZO (X := X) _ JU _ rfl rfl]; unfold JU
  refine rn @oN ?_
  refine aD ?_
  rw [hc]
  refine rn trivial ?_
  simp only [Zw, Yc, lk, Za, List.map_cons, List.map_nil, reduceIte, Option.map_some, Nat.reduceEqDiff, aB]
 unfold li
 rcases hR with ⟨hok, hR⟩ | ⟨hok, hR⟩
 ·rw [if_pos hok]
  refine key _ _ (fun g => ?_) (dV _ _ _) (by have := hok.2.1; omega)
  rcases hR with ⟨rfl, h0⟩ | rfl
  ·rw [h0]; rfl
  ·rfl
 ·rw [if_neg hok]
  exact key [] 0 (fun g => by rw [hR]; rfl) rfl (by omega)
theorem GA {H : Zb} {n : Int} {D B : DV} {ys : List V} {bs : List Nat} (hD : df D ys) (cH : ys.length ≤ 200) (hB : aC B bs) (bb : BB bs) (lo hi : Int) :
 ∃ W, E X 14 [aI n D B, .int .i64 lo, .int .i64 hi] H = some (.agg [W], H) ∧ W.one = true ∧ ∀ g, E X 13 [.agg [W], .int .i64 (-1)] g = some (pq (li n ys bs lo hi), g) := by
 unfold li
 by_cases hok : dU n ys bs
 ·rw [if_pos hok]
  obtain ⟨hn, hC⟩ := hok.col hD (by omega) hB bb
  obtain ⟨W, h1, h2⟩ := En (H := H) hC lo hi
  rw [← hn] at h1
  refine ⟨W, h1, by rcases h2 with rfl | ⟨rfl, _⟩ <;> rfl, fun g => zT h2 (by have := hok.2.1; omega) g⟩
 ·rw [if_neg hok]
  obtain ⟨W, h1, h2⟩ := GB (H := H) (n := n) hD (by omega) hB bb hok lo hi
  exact ⟨W, h1, by rcases h2 with rfl | ⟨rfl, _⟩ <;> rfl, fun g => zT (hold := fun _ => false) (il := []) (n := 0) h2 (by omega) g⟩
theorem uB {a b : XC} {e : Env} {h H : Zb} {rs : List XRes} {r : Option (DV × Zb)} (P : Env → Zb → Prop) (h1 : ∃ e' h', C X a e h = some (.norm, e', h') ∧ P e' h') (h2 : ∀ e' h', P e' h' → ends rs H (C X b e' h') = r) : ends rs H (C X (.seq a b) e h) = r := by
 obtain ⟨e', h', h3, h4⟩ := h1
 rw [D8 h3]
 exact h2 e' h' h4
theorem nN {ops : List ah} {keep : List Nat} {e e1 : Env} {h h1 : Zb} {P : Env → Zb → Prop} (he : ZF (E X) ops e h = some (e1, h1)) (hp : P (Za keep e1) h1) : ∃ e' h', C X (.reg ops keep) e h = some (.norm, e', h') ∧ P e' h' := ⟨_, _, Ym he, hp⟩
def vX (w : V) : HO := .box 34 [.int .i64 w.k, .int .i64 w.n, .str w.s, .bool w.t]
def DZ (vs : List V) (i : Int) (w : V) (t : Bool) : Prop := (t = true ∧ 0 ≤ i ∧ i < (vs.length : Int) ∧ vs[i.toNat]? = some w) ∨ (t = false ∧ ¬ (0 ≤ i ∧ i < (vs.length : Int)) ∧ w = V0)
theorem Co (vs : List V) (i : Int) : ∃ w t, DZ vs i w t := by
 by_cases c : 0 ≤ i ∧ i < (vs.length : Int)
 ·have : i.toNat < vs.length := by omega
  exact ⟨_, true, .inl ⟨rfl, c.1, c.2, List.getElem?_eq_getElem this⟩⟩
 ·exact ⟨V0, false, .inr ⟨rfl, c, rfl⟩⟩
theorem GF {c : RC} (hc : c.Ok) {i : Int} {w : V} {t : Bool} (h : DZ (jL c) i w t) (H : Zb) : E X 11 [.agg [.int .i64 c.n, c.D, c.B], .int .i64 i] H = some (.tup [.agg [.int .i64 w.k, .int .i64 w.n, .str w.s, .bool w.t], .bool t], H) := by
 rcases h with ⟨rfl, h1, h2, h3⟩ | ⟨rfl, h1, rfl⟩
 ·have hi : i.toNat < (jL c).length := by omega
  have := GD hc hi H
  rw [List.getD_eq_getElem?_getD, h3, show ((i.toNat : Nat) : Int) = i by omega] at this
  exact this
 ·by_cases c0 : i < 0
  ·exact GH c0 H
  ·have := GG (i := i.toNat) hc (by omega) H
   rw [show ((i.toNat : Nat) : Int) = i by omega] at this
   exact this
theorem Aq {l : List Nat} (hl : l.length ≤ 100000) : ∀ (A B : DV) (h : Zb), vw h 1 A = some (l.map iD) → vw h 1 B = some (l.map iD) → E X 12 [A, B] h = some (.bool true, h) := by
 intro A B h hA hB
 have e : l.map iD = (l.map Int.ofNat).map (.int .i64) := by rw [List.map_map]; rfl
 rw [e] at hA hB
 have := yx hA hB (by rw [List.length_map]; omega)
 simpa using this
theorem CJ (n : Int) (ys : List V) (bs : List Nat) (lo hi : Int) : (li n ys bs lo hi).length ≤ 4096 := by
 unfold li
 split
 ·rename_i h
  have := kP (kz lo hi) (bF bs (wC ys.length) n.toNat) n.toNat
  have := h.2.1
  omega
 ·simp
theorem Fb (n : Int) (ys : List V) (bs : List Nat) : (iQ n ys bs).length ≤ 4096 := by
 unfold iQ
 split
 ·rename_i h
  unfold dH
  rw [List.length_map, dV]
  have := h.2.1
  omega
 ·simp
theorem CN {c : RC} (hc : c.Ok) (hi : ∀ v ∈ c.ys, lh v) (H : Zb) : ∃ R1 R2 e l, E X 16 [.agg [.int .i64 c.n, c.D, c.B]] H = some (.tup [R1, .int .i64 e], H) ∧ E X 17 [.agg [.int .i64 c.n, c.D, c.B]] H = some (.tup [R2, .int .i64 e], H) ∧ aC R1 l ∧ aC R2 l ∧ l.length ≤ 1000000 := by
 have iC := hc.yl
 have xy := hc.bl
 by_cases hok : dU c.n c.ys c.bs
 ·obtain ⟨hn, hC⟩ := hok.col hc.dict (by omega) hc.bytes hc.bb
  obtain ⟨R1, h1, h2⟩ := Gy (H := H) hC hc.bytes hi (by omega)
  obtain ⟨R2, h3, h4⟩ := Gw (H := H) (n := c.n.toNat) (by rw [← hn]; exact hok) hc.dict iC hc.sm hc.bytes hc.bb (by omega) hi
  rw [← hn] at h1 h3
  refine ⟨R1, R2, 0, _, h1, h3, h2, h4, ?_⟩
  rw [sN]
  have q1 := da (u := c.n.toNat) (by have := hok.2.1; omega)
  have q2 := da (u := c.ys.length) (by omega)
  have q3 : (eN c.ys).length ≤ c.ys.length * 100 := by
   have : ∀ l : List V, (∀ v ∈ l, aG v = true) → (∀ v ∈ l, lh v) → (eN l).length ≤ l.length * 100 := by
    intro l
    induction l with
    | nil => intro _ _; simp [eN]
    | cons v l ih =>
     intro a1 a2
     have := ih (fun x hx => a1 x (by simp [hx])) (fun x hx => a2 x (by simp [hx]))
     have := uq (a1 v (by simp)) (a2 v (by simp))
     have e : eN (v :: l) = v.k.toNat :: vB v ++ eN l := by simp [eN]
     rw [e]
     simp only [List.cons_append, List.length_cons, List.length_append]
     omega
   exact this _ hC.may hi
  simp only [List.length_append]
  omega
 ·refine ⟨.nils, .nils, 1, [], Gz hc.dict (by omega) hc.bytes hc.bb hok, Gx hok hc.dict iC hc.sm hc.bytes hc.bb (by omega), .inl ⟨rfl, rfl⟩, .inl ⟨rfl, rfl⟩, by simp⟩
open Classical in
set_option maxHeartbeats 4000000 in
theorem run3 {c : RC} (hr : c.Raw) (hi : ∀ v ∈ c.ys, lh v) (i lo hi' : Int) : E X 3 [c.d, .int .i64 i, .int .i64 lo, .int .i64 hi'] [] = some (.bool true, []) := by
 have e5 := Mr
 have cT := hr.dict.one
 have dz := hr.bytes.one'
 obtain ⟨lt, e6, hc⟩ := Mq (H := [.box 25 [.int .i64 c.n, c.D, c.B]]) hr
 unfold RC.d aI at *
 cases lt
 ·clear hc hr hi
  rw [ZO (X := X) _ b3 _ rfl rfl]; unfold b3; exact kQ (d8 @e5 @e6 @cT @dz)
 have hc := hc rfl
 have iC := hc.yl
 have xy := hc.bl
 have aU := hc.dict.vw
 obtain ⟨R0, e7, jy⟩ := uC (H := [.box 25 [.int .i64 c.n, c.D, c.B]]) (n := c.n) hc.dict iC hc.sm hc.bytes hc.bb (by omega)
 have sD : R0.one = true := by
  rcases jy with ⟨_, h⟩ | ⟨_, rfl⟩
  ·rcases h with ⟨rfl, _⟩ | rfl <;> rfl
  ·rfl
 obtain ⟨ok, hok⟩ : ∃ ok, ok = decide (dU c.n c.ys c.bs) := ⟨_, rfl⟩
 rw [← hok] at e7
 obtain ⟨A8, e8, Ba⟩ := Mp (H := [.box 25 [.int .i64 c.n, c.D, c.B]]) (n := c.n) hc.dict iC hc.sm hc.bytes hc.bb (by omega)
 have hvs : iQ c.n c.ys c.bs = jL c := rfl
 have hvl := Fb c.n c.ys c.bs
 rw [hvs] at Ba hvl
 have E0 := fun g => KM (H := g) (n := c.n) hc.dict iC hc.bytes hc.bb
 rw [hvs] at E0
 obtain ⟨w, t, hw⟩ := Co (jL c) i
 have xM := fun g => GF hc hw g
 have Ja := fun g => GA (H := g) (n := c.n) hc.dict iC hc.bytes hc.bb lo hi'
 have oN := fun g => KJ (H := g) (n := c.n) hc.dict iC hc.sm hc.bytes hc.bb (by omega) lo hi'
 have pL := CJ c.n c.ys c.bs lo hi'
 have I1 := fun g => CN hc hi g
 have xL : ∀ g, E X 19 [.agg [.int .i64 c.n, c.D, c.B]] g = some (.bool ok, g) := fun g => by
  have := qH (n := c.n) hc.dict (by omega) hc.bytes hc.bb g
  rw [hok]; exact this
 have e9 : ∀ (A B : DV) (h : Zb), vw h 4 A = some ((jL c).map V.d) → vw h 4 B = some ((jL c).map V.d) → E X 9 [A, B] h = some (.bool true, h) := fun A B h h1 h2 => D9 h1 h2 (by omega)
 obtain ⟨xs, hxs⟩ : ∃ xs, xs = (jL c).map V.d := ⟨_, rfl⟩
 have iR : xs.length = (jL c).length := by rw [hxs, List.length_map]
 unfold wB at Ba E0
 unfold aI at *
 rw [← hxs] at Ba e9
 rw [ZO (X := X) _ b3 _ rfl rfl]; unfold b3
 refine aT (jP @e5 @e6 @e7 @cT @dz @sD) ?_
 refine uB (fun e' h' => ∃ A, e' = [(1, .int .i64 i), (2, .int .i64 lo), (3, .int .i64 hi'), (4, .ref 0 0), (12, .bool ok), (13, A)] ∧ h'[0]? = some (HO.box 25 [.int .i64 c.n, c.D, c.B]) ∧ vw h' 4 A = some xs ∧ A.one = true) ?_ ?_
 ·rcases Ba with ⟨rfl, h0⟩ | rfl
  ·refine nN (by simp [go_sem, e8, cT, dz, ay]; exact ⟨rfl, rfl⟩) ?_
   exact ⟨.nils, by simp [Za, lk], by simp, by rw [hxs, h0]; rfl, rfl⟩
  ·refine nN (by simp [go_sem, e8, cT, dz, ay]; exact ⟨rfl, rfl⟩) ?_
   exact ⟨.row 1 0 0 xs.length false, by simp [Za, lk], by simp, by simp [vw], rfl⟩
 rintro _ h1 ⟨A, rfl, b0, vA, oA⟩
 refine uB (fun e' h' => e' = [(1, .int .i64 i), (2, .int .i64 lo), (3, .int .i64 hi'), (4, .ref 0 0), (12, .bool ok), (13, A), (14, .bool true)] ∧ h'[0]? = some (HO.box 25 [.int .i64 c.n, c.D, c.B]) ∧ vw h' 4 A = some xs) ?_ ?_
 ·obtain ⟨Pv, Jb, IG⟩ := E0 h1
  rw [← hxs] at IG
  rcases IG with ⟨rfl, h0⟩ | rfl
  ·have q := e9 .nils A h1 (by rw [hxs, h0]; rfl) vA
   refine nN (by simp [go_sem, b0, Jb, q, oA, cT, dz, ay]; exact ⟨rfl, rfl⟩) ?_
   exact ⟨by simp [Za, lk], b0, vA⟩
  ·have q := e9 (.row h1.length 0 0 xs.length false) A (h1 ++ [.row 34 4 0 xs]) (by simp [vw]) (iq vA)
   refine nN (by simp [go_sem, b0, Jb, q, oA, cT, dz, ay]; exact ⟨rfl, rfl⟩) ?_
   exact ⟨by simp [Za, lk], by rw [List.getElem?_append_left (List.getElem?_eq_some_iff.1 b0).1]; exact b0, iq vA⟩
 clear b0 vA h1
 rintro _ h2 ⟨rfl, b0, vA⟩
 have b1 : ∀ L, (h2 ++ L)[0]? = some (HO.box 25 [.int .i64 c.n, c.D, c.B]) := fun L => by rw [List.getElem?_append_left (List.getElem?_eq_some_iff.1 b0).1]; exact b0
 rw [Zs (by simp [go_sem, b0, b1, xM, cT, dz, ay]; exact ⟨rfl, rfl⟩)]
 have v1 : ∀ L, vw (h2 ++ L) 4 A = some xs := fun L => iq vA
 refine uB (fun e' h' => e' = [(1, .int .i64 i), (2, .int .i64 lo), (3, .int .i64 hi'), (4, .ref 0 0), (12, .bool ok), (13, A), (14, .bool true), (15, .ref h2.length 0), (16, .bool t), (17, .bool t)] ∧ h' = h2 ++ [vX w]) ?_ ?_
 ·rcases hw with ⟨rfl, w1, w2, w3⟩ | ⟨rfl, w1, rfl⟩
  ·rw [← iR] at w2
   refine nN (by simp [go_sem, v1, w1, w2, ay]; exact ⟨rfl, rfl⟩) ?_
   exact ⟨by simp [Za, lk], rfl⟩
  ·rw [← iR] at w1
   by_cases w0 : 0 ≤ i
   ·have w2 : ¬ i < (xs.length : Int) := fun h => w1 ⟨w0, h⟩
    refine nN (by simp [go_sem, v1, w0, w2, ay]; exact ⟨rfl, rfl⟩) ?_
    exact ⟨by simp [Za, lk], rfl⟩
   ·refine nN (by simp [go_sem, v1, w0, ay]; exact ⟨rfl, rfl⟩) ?_
    exact ⟨by simp [Za, lk], rfl⟩
 rintro _ _ ⟨rfl, rfl⟩
 unfold vX
 rw [Zs (by simp [go_sem, ay]; exact ⟨rfl, rfl⟩)]
 refine uB (fun e' h' => (∃ pre, (e' = [(1, .int .i64 i), (2, .int .i64 lo), (3, .int .i64 hi'), (4, .ref 0 0), (12, .bool ok), (13, A), (14, .bool true), (15, .ref h2.length 0), (16, .bool t), (17, .bool t), (18, .ref (h2.length + 1) 0), pre] ∨ e' = [(2, .int .i64 lo), (3, .int .i64 hi'), (4, .ref 0 0), (12, .bool ok), (14, .bool true), (15, .ref h2.length 0), (16, .bool t), (17, .bool t), (18, .ref (h2.length + 1) 0)])) ∧ h' = h2 ++ [vX w, vX w]) ?_ ?_
 ·rcases hw with ⟨rfl, w1, w2, w3⟩ | ⟨rfl, w1, rfl⟩
  ·obtain ⟨I, rfl⟩ : ∃ I : Nat, i = I := ⟨i.toNat, by omega⟩
   rw [← iR] at w2
   rw [Int.toNat_natCast] at w3
   have w4 : I < xs.length := by omega
   have w5 : xs[I]? = some w.d := by rw [hxs, List.getElem?_map, w3]; rfl
   have w6 : xs[I] = w.d := by rw [List.getElem?_eq_getElem w4] at w5; injection w5
   unfold V.d at w5 w6
   refine ⟨_, _, ?_, ⟨(0, .nils), .inr rfl⟩, rfl⟩
   refine aT (mh @v1 @w2 @w4 @w5 @w6) ?_
   simp [Za, lk, vX]
  ·refine ⟨_, _, ?_, ⟨(65, .bool false), .inl rfl⟩, rfl⟩
   refine aT @v1 ?_
   simp [Za, lk, vX, V0]
 rintro _ _ ⟨⟨pre, he⟩, rfl⟩
 unfold vX at *
 refine uB (fun e' h' => e' = [(4, .ref 0 0), (12, .bool ok), (14, .bool true), (15, .ref h2.length 0), (16, .bool t), (17, .bool t), (18, .ref (h2.length + 1) 0), (19, .bool true)] ∧ h'[0]? = some (HO.box 25 [.int .i64 c.n, c.D, c.B]) ∧ h'[h2.length]? = some (.box 34 [.int .i64 w.k, .int .i64 w.n, .str w.s, .bool w.t]) ∧ h'[h2.length + 1]? = some (.box 34 [.int .i64 w.k, .int .i64 w.n, .str w.s, .bool w.t])) ?_ ?_
 ·have f0 := b1 [.box 34 [.int .i64 w.k, .int .i64 w.n, .str w.s, .bool w.t], .box 34 [.int .i64 w.k, .int .i64 w.n, .str w.s, .bool w.t]]
  have f1 : (h2 ++ [HO.box 34 [.int .i64 w.k, .int .i64 w.n, .str w.s, .bool w.t], .box 34 [.int .i64 w.k, .int .i64 w.n, .str w.s, .bool w.t]])[h2.length]? = some (.box 34 [.int .i64 w.k, .int .i64 w.n, .str w.s, .bool w.t]) := by simp [ae]
  have f2 : (h2 ++ [HO.box 34 [.int .i64 w.k, .int .i64 w.n, .str w.s, .bool w.t], .box 34 [.int .i64 w.k, .int .i64 w.n, .str w.s, .bool w.t]])[h2.length + 1]? = some (.box 34 [.int .i64 w.k, .int .i64 w.n, .str w.s, .bool w.t]) := by simp [ae]
  generalize (h2 ++ [HO.box 34 [.int .i64 w.k, .int .i64 w.n, .str w.s, .bool w.t], .box 34 [.int .i64 w.k, .int .i64 w.n, .str w.s, .bool w.t]]) = h3 at *
  have g0 : ∀ {o : Nat} {x : HO} (L : Zb), h3[o]? = some x → (h3 ++ L)[o]? = some x := fun L h => by rw [List.getElem?_append_left (List.getElem?_eq_some_iff.1 h).1]; exact h
  obtain ⟨W, ze, EM, eL⟩ := Ja h3
  have hL := Am (li c.n c.ys c.bs lo hi')
  have eI := Aq (l := li c.n c.ys c.bs lo hi') (by omega)
  generalize pq (li c.n c.ys c.bs lo hi') = dL at *
  generalize hrs : li c.n c.ys c.bs lo hi' = rs at *
  rcases hL with ⟨rfl, l0⟩ | rfl
  ·obtain ⟨O2, vT, hd⟩ := oN h3
   rcases hd with ⟨rfl, _⟩ | rfl
   ·have q := eI .nils .nils h3 (by rw [l0]; rfl) (by rw [l0]; rfl)
    rcases he with rfl | rfl
    all_goals
     refine nN (by simp [go_sem, f0, ze, eL, vT, q, EM, cT, dz, ay]; exact ⟨rfl, rfl⟩) ?_
     exact ⟨by simp [Za, lk], f0, f1, f2⟩
   ·have q := eI .nils (.row h3.length 0 0 (rs.map iD).length false) (h3 ++ [.row 3 1 0 (rs.map iD)]) (by rw [l0]; rfl) (by simp [vw, List.take_of_length_le])
    generalize rs.map iD = is at *
    rcases he with rfl | rfl
    all_goals
     refine nN (by simp [go_sem, f0, ze, eL, vT, q, EM, cT, dz, ay]; exact ⟨rfl, rfl⟩) ?_
     exact ⟨by simp [Za, lk], g0 _ f0, g0 _ f1, g0 _ f2⟩
  ·obtain ⟨O2, vT, hd⟩ := oN (h3 ++ [.row 3 1 0 (rs.map iD)])
   have kp := Zm h3 [HO.row 3 1 0 (rs.map iD)] (.row h3.length 0 0 (rs.map iD).length false)
   have nD := g0 [.row 3 1 0 (rs.map iD)] f0
   have pU : ∀ hb, (h3 ++ [HO.row 3 1 0 (rs.map iD)])[0]'hb = .box 25 [.int .i64 c.n, c.D, c.B] := fun hb => by
    have := nD
    rw [List.getElem?_eq_getElem hb] at this
    injection this
   rcases hd with ⟨rfl, l0⟩ | rfl
   ·have q := eI (.row h3.length 0 0 (rs.map iD).length false) .nils (h3 ++ [.row 3 1 0 (rs.map iD)]) (by simp [vw, List.take_of_length_le]) (by rw [l0]; rfl)
    generalize rs.map iD = is at *
    rcases he with rfl | rfl
    all_goals
     refine nN (by simp [go_sem, f0, nD, pU, ze, eL, kp, vT, q, EM, cT, dz, ay]; exact ⟨rfl, rfl⟩) ?_
     exact ⟨by simp [Za, lk], g0 _ f0, g0 _ f1, g0 _ f2⟩
   ·have q := eI (.row h3.length 0 0 (rs.map iD).length false) (.row (h3.length + 1) 0 0 (rs.map iD).length false) (h3 ++ [.row 3 1 0 (rs.map iD), .row 3 1 0 (rs.map iD)]) (by simp [vw, ae, List.take_of_length_le]) (by simp [vw, ae, List.take_of_length_le])
    generalize rs.map iD = is at *
    rcases he with rfl | rfl
    all_goals
     refine nN (by simp [go_sem, f0, nD, pU, ze, eL, kp, vT, q, EM, cT, dz, ay]; exact ⟨rfl, rfl⟩) ?_
     exact ⟨by simp [Za, lk], g0 _ f0, g0 _ f1, g0 _ f2⟩
 clear he pre
 rintro _ h4 ⟨rfl, f0, f1, f2⟩
 obtain ⟨R1, R2, er, l, p1, p2, q1, q2, ql⟩ := I1 h4
 have vS := Em (h := h4) (q1.vw h4) (q2.vw h4) ql
 have r1 := q1.one'
 have r2 := q2.one'
 clear e5 e6 e7 e8 e9 E0 xM Ja oN Ba b0 b1 v1 vA hw q1 q2
 refine sW (lm @p1 @p2 @vS @r1 @r2 @f0 @f1 @f2 @xL @cT @dz @aS) ?_
 clear p1 p2 vS r1 r2 f1 f2 xL I1
 have g0 : ∀ {o : Nat} {x : HO} (L : Zb), h4[o]? = some x → (h4 ++ L)[o]? = some x := fun L h => by rw [List.getElem?_append_left (List.getElem?_eq_some_iff.1 h).1]; exact h
 have nD := fun L => g0 L f0
 have pU : ∀ L hb, (h4 ++ L)[0]'hb = .box 25 [.int .i64 c.n, c.D, c.B] := fun L hb => by
  have := nD L
  rw [List.getElem?_eq_getElem hb] at this
  injection this
 by_cases hk : dU c.n c.ys c.bs
 ·obtain rfl : ok = true := by rw [hok]; exact decide_eq_true hk
  obtain ⟨hn, hC⟩ := hk.col hc.dict (by omega) hc.bytes hc.bb
  cases jv : fW c.ys with
  | nil =>
   have lg := fun g => Gr hC jv g
   rw [← hn] at lg
   unfold aI at lg
   cases hys : c.ys with
   | nil =>
    rw [hys] at aU
    rw [List.map_nil] at aU
    clear hC hk hok jy hc hr hi g0
    refine sW (gN @lg @f0 @nD @pU @aU @cT @dz @aS) ?_
    exact uP @aS
   | cons y s =>
    rw [hys] at jv aU
    have h0 : y.k = 0 := by
     by_cases h0 : y.k = 0
     ·exact h0
     ·simp [fW, h0] at jv
    have hs : s = [] := by simpa [fW, h0] using jv
    subst hs
    obtain ⟨yk, yn, ys', yt⟩ := y
    simp only at h0
    subst h0
    rw [List.map_cons, List.map_nil] at aU
    simp only [V.d] at aU
    clear hC hk hok jy hc hr hi g0 jv
    refine sW (gN @lg @f0 @nD @pU @aU @cT @dz @aS) ?_
    exact uP @aS
  | cons a us =>
   obtain ⟨z, hz⟩ : ∃ z, (a :: us)[(a :: us).length - 1]? = some z := ⟨_, List.getElem?_eq_getElem (by simp)⟩
   have lg := fun g => Gq hC jv (a := a) (z := z) rfl hz g
   rw [← hn] at lg
   unfold aI at lg
   cases hys : c.ys with
   | nil => rw [hys] at jv; cases jv
   | cons y s =>
    rw [hys] at jv aU iC
    obtain ⟨yd, u9⟩ : ∃ yd, yd = (y :: s).map V.d := ⟨_, rfl⟩
    rw [← u9] at aU
    obtain ⟨m, hm⟩ : ∃ m, m = yd.length := ⟨_, rfl⟩
    have hml : m = (y :: s).length := by rw [hm, u9, List.length_map]
    rw [List.length_cons] at hml iC
    obtain ⟨q, hq⟩ : ∃ q, q = m - 1 := ⟨_, rfl⟩
    have z1 : IntKind.i64.wrap ((m : Int) - 1) = (q : Int) := wr
    have HT : (y :: s)[q]? = some z := by
     by_cases h0 : y.k = 0
     ·have hs : s = a :: us := by simpa [fW, h0] using jv
      subst hs
      rw [hq, hml, Nat.add_sub_cancel, List.length_cons, List.getElem?_cons_succ]
      simpa using hz
     ·have hs : y :: s = a :: us := by simpa [fW, h0] using jv
      rw [hs, hq, hml, show s.length = us.length from by injection hs with _ h; rw [h]]
      simpa using hz
    have jN : q < m := by omega
    have Lu : q < yd.length := by omega
    have qV : yd[q]? = some z.d := by rw [u9, List.getElem?_map, HT]; rfl
    have HU : yd[q]'Lu = z.d := by rw [List.getElem?_eq_getElem Lu] at qV; injection qV
    have hy0 : yd[0]? = some y.d := by rw [u9]; rfl
    have HV : yd[0]'(by omega) = y.d := by rw [List.getElem?_eq_getElem (by omega)] at hy0; injection hy0
    have n3 : (0 : Int) < (m : Int) := by omega
    have Lh : 0 < m := by omega
    by_cases h0 : y.k = 0
    ·have hs : s = a :: us := by simpa [fW, h0] using jv
     have hy1 : yd[1]? = some a.d := by rw [u9, hs]; rfl
     have Il : 1 < m := by rw [hml, hs]; simp
     have MI : yd[1]'(by omega) = a.d := by rw [List.getElem?_eq_getElem (by omega)] at hy1; injection hy1
     have n1 : ¬ (m : Int) = 1 := by omega
     have n2 : ¬ m = 1 := by omega
     have n4 : ((m : Int) == 1) = false := by simp only [beq_eq_false_iff_ne]; omega
     have M2 : (1 : Int) < (m : Int) := by omega
     obtain ⟨yk, yn, ys', yt⟩ := y
     obtain ⟨ak, an, as', at'⟩ := a
     obtain ⟨zk, zn, zs, zt⟩ := z
     simp only at h0
     subst h0
     simp only [V.d] at *
     clear hC hk hok jy hc hr hi g0 jv hys u9 hs hz HT
     refine sW (Nc @lg @f0 @nD @pU @aU (Eq.symm hm) @qV @HU @hy0 @HV @hy1 @MI @Il @M2 @n1 @n2 @n3 @Lh @n4 @z1 @jN @cT @dz @aS) ?_
     exact uP @aS
    ·have hs : y :: s = a :: us := by simpa [fW, h0] using jv
     obtain ⟨rfl, rfl⟩ : y = a ∧ s = us := by injection hs with h1 h2; exact ⟨h1, h2⟩
     have n1 : ¬ (m : Int) = 0 := by omega
     have n2 : ¬ m = 0 := by omega
     have n4 : ((m : Int) == 0) = false := by simp only [beq_eq_false_iff_ne]; omega
     have h0' : (y.k == 0) = false := by simpa using h0
     obtain ⟨yk, yn, ys', yt⟩ := y
     obtain ⟨zk, zn, zs, zt⟩ := z
     simp only at h0 h0'
     simp only [V.d] at *
     clear hC hk hok jy hc hr hi g0 jv hys u9 hs hz HT
     refine sW (Dn @lg @f0 @nD @pU @aU (Eq.symm hm) @qV @HU @hy0 @HV @h0 @h0' @n1 @n2 @n3 @Lh @n4 @z1 @jN @cT @dz @aS) ?_
     exact uP @aS
 ·obtain rfl : ok = false := by rw [hok]; exact decide_eq_false hk
  have lg := fun g => Gs (H := g) (n := c.n) hc.dict (by omega) hc.bytes hc.bb hk
  unfold aI at lg
  cases hys : c.ys with
  | nil =>
   rw [hys] at aU
   rw [List.map_nil] at aU
   clear hk hok jy hc hr hi g0
   refine sW (gN @lg @f0 @nD @pU @aU @cT @dz @aS) ?_
   exact uP @aS
  | cons y s =>
   rw [hys] at aU
   obtain ⟨m, hm⟩ : ∃ m : Nat, m = s.length + 1 := ⟨_, rfl⟩
   have n3 : (0 : Int) < (s.length : Int) + 1 := by omega
   obtain ⟨yk, yn, ys', yt⟩ := y
   rw [List.map_cons] at aU
   generalize s.map V.d = sd at *
   simp only [V.d] at aU
   have n3 : (0 : Int) < (sd.length : Int) + 1 := by omega
   by_cases h0 : yk = 0
   ·subst h0
    clear hk hok jy hc hr hi g0 hys
    refine sW (jC @lg @f0 @nD @pU @aU @n3 @cT @dz @aS) ?_
    exact uP @aS
   ·have h0' : (yk == 0) = false := by simpa using h0
    clear hk hok jy hc hr hi g0 hys
    refine sW (eJ @lg @f0 @nD @pU @aU @n3 @h0 @h0' @cT @dz @aS) ?_
    exact uP @aS
end Go.Proofs.YteekbciaggmfgaaDoor
