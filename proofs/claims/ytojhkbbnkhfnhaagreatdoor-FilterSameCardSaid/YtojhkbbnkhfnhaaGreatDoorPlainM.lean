/- Ideal runs: few values, lists that rise, places, by the document. Ideal runs: the document's order, find and place. Ideal runs: the document's order; lists that rise. Values: see the texts on dictionaries. Plain Lean: the order of values, lists that rise, where a value stands. -/
import Derived.Test.YtojhkbbnkhfnhaaGreatDoorPlainB
namespace Go.Proofs.YtojhkbbnkhfnhaaGreatDoor
attribute [local go_sem] Ya ZT ZV ZW ZO ZF ZM ZI ZK ZB ZC ZJ ZP ZQ ZX ZN ZG ZU Zp Zm Yg ZS Yq put lk Od.v Za ZE ZA YB Ym Yn Yo unx YE DV.isU DV.cells hget Yb Yj Yd ZL splice Ye mat Yi YD one_bool one_int one_str one_nilp one_ref one_elem one_nils one_list one_row one_nilm one_map one_nilf one_func one_nili one_ifc one_agg one_tup one_undef one_fresh
attribute [local go_sem ↓] ZH
set_option linter.unusedVariables false
set_option linter.unusedSimpArgs false
set_option maxRecDepth 10000
/-- Texts that fit into memory. -/
def Sm (v : V) : Prop := v.s.size ≤ 140737488355328
/-- Does a list rise, behind a value? -/
def risL : Option V → List V → Bool
  | _, [] => true
  | none, a :: l => mayV a && risL (some a) l
  | some p, a :: l => mayV a && (decide (ord p a < 0) && risL (some a) l)
def prev (xs : List V) : Nat → Option V
  | 0 => none
  | i + 1 => xs[i]?
theorem loop109 {H2 : ZD} {A : DV} {xs : List V} (hA : ∀ l, vw (H2 ++ l) 4 A = some (xs.map V.d)) (hb : xs.length ≤ 1000000) : ∀ (k i : Nat) (l : ZD), xs.length - i ≤ k → i ≤ xs.length →
    (risL (prev xs i) (xs.drop i) = false ∧ ∃ l', C X (.loop lp109_0) [(0, A), (5, A), (6, .int .i64 xs.length), (7, .int .i64 i)] (H2 ++ l) = some (.ret, [(2, .bool false)], H2 ++ l')) ∨ (risL (prev xs i) (xs.drop i) = true ∧ ∃ e' l', C X (.loop lp109_0) [(0, A), (5, A), (6, .int .i64 xs.length), (7, .int .i64 i)] (H2 ++ l) = some (.exit 0, e', H2 ++ l')) := by
  intro k
  induction k with
  | zero =>
    intro i l hk hi
    obtain rfl : i = xs.length := by omega
    right
    rw [Yh]
    unfold lp109_0
    (repeat (first | rw [Zj] | rw [Zc (by simp [Ya, ZT, ZV, ZW, ZO, ZF, ZM, ZI, ZK, ZB, ZC, ZJ, ZP, ZQ, ZX, ↓ZH, ZN, ZG, ZU, Zp, Zm, Yg, ZS, Yq, put, lk, Od.v, Za, ZE, ZA, YB, Ym, Yn, Yo, unx, YE, DV.isU, DV.cells, hget, Yb, Yj, Yd, ZL, splice, DV.one, Ye, mat, Yi, YD, hA]; exact ⟨rfl, rfl⟩)] | rw [Zv (by simp [lk, Za, Od.v, hA]; exact rfl)] | rw [Zp] | rw [Zm] | rw [Zl] | rw [Zy] | rw [Zq] | rw [Zt] | rw [Zo] | rw [Zn] | rw [Zk] | rw [Zg] | rw [Zh] | rw [Zd (by decide)] | rw [Zi] | rw [Ze] | rw [Zf] | rw [Zb (by decide)] | rw [Zz] | rw [Zu (by simp [Ya, ZT, ZV, ZW, ZO, ZF, ZM, ZI, ZK, ZB, ZC, ZJ, ZP, ZQ, ZX, ↓ZH, ZN, ZG, ZU, Zp, Zm, Yg, ZS, Yq, put, lk, Od.v, Za, ZE, ZA, YB, Ym, Yn, Yo, unx, YE, DV.isU, DV.cells, hget, Yb, Yj, Yd, ZL, splice, DV.one, Ye, mat, Yi, YD, hA]; exact ⟨rfl, rfl⟩)] | rw [Zw (by simp [lk, Za, Od.v, hA]; exact rfl)] | rw [Zx]))
    rw [Yx]
    exact ⟨by rw [List.drop_length]; cases prev xs xs.length <;> rfl, _, _, rfl⟩
  | succ k ih =>
    intro i l hk hi
    by_cases w0 : i < xs.length
    · obtain ⟨I, hI⟩ : ∃ I, I = i + 1 := ⟨_, rfl⟩
      have w1 : IntKind.i64.wrap ((i : Int) + 1) = (I : Int) := by rw [wrap64 _ (by omega) (by omega)]; omega
      have d1 : xs.drop i = xs[i] :: xs.drop (i + 1) := List.drop_eq_getElem_cons w0
      have hp : prev xs I = some xs[i] := by rw [hI]; exact List.getElem?_eq_getElem w0
      have e1 := run72 xs[i]
      have fin : C X lp109_0 [(0, A), (5, A), (6, .int .i64 xs.length), (7, .int .i64 i)] (H2 ++ l) = some (.norm, [(0, A), (5, A), (6, .int .i64 xs.length), (7, .int .i64 I)], H2 ++ (l ++ [HO.box 51 [.int .i64 (xs[i]).k, .int .i64 (xs[i]).n, .str (xs[i]).s, .bool (xs[i]).t]])) → risL (prev xs i) (xs.drop i) = risL (some xs[i]) (xs.drop (i + 1)) →
          (risL (prev xs i) (xs.drop i) = false ∧ ∃ l', C X (.loop lp109_0) [(0, A), (5, A), (6, .int .i64 xs.length), (7, .int .i64 i)] (H2 ++ l) = some (.ret, [(2, .bool false)], H2 ++ l')) ∨ (risL (prev xs i) (xs.drop i) = true ∧ ∃ e' l', C X (.loop lp109_0) [(0, A), (5, A), (6, .int .i64 xs.length), (7, .int .i64 i)] (H2 ++ l) = some (.exit 0, e', H2 ++ l')) := by
        intro hs hr
        rw [Yh, hs, Yw, hr, ← hp, ← hI]
        exact ih I _ (by omega) (by omega)
      cases hm : mayV xs[i]
      · left
        rw [hm] at e1
        refine ⟨by rw [d1]; cases prev xs i <;> simp [risL, hm], l ++ [HO.box 51 [.int .i64 (xs[i]).k, .int .i64 (xs[i]).n, .str (xs[i]).s, .bool (xs[i]).t]], ?_⟩
        rw [Yh]
        unfold lp109_0
        (repeat (first | rw [Zj] | rw [Zc (by simp [Ya, ZT, ZV, ZW, ZO, ZF, ZM, ZI, ZK, ZB, ZC, ZJ, ZP, ZQ, ZX, ↓ZH, ZN, ZG, ZU, Zp, Zm, Yg, ZS, Yq, put, lk, Od.v, Za, ZE, ZA, YB, Ym, Yn, Yo, unx, YE, DV.isU, DV.cells, hget, Yb, Yj, Yd, ZL, splice, DV.one, Ye, mat, Yi, YD, hA, w0, w1, ZR, e1]; exact ⟨rfl, rfl⟩)] | rw [Zv (by simp [lk, Za, Od.v, hA, w0, w1, ZR, e1]; exact rfl)] | rw [Zp] | rw [Zm] | rw [Zl] | rw [Zy] | rw [Zq] | rw [Zt] | rw [Zo] | rw [Zn] | rw [Zk] | rw [Zg] | rw [Zh] | rw [Zd (by decide)] | rw [Zi] | rw [Ze] | rw [Zf] | rw [Zb (by decide)] | rw [Zz] | rw [Zu (by simp [Ya, ZT, ZV, ZW, ZO, ZF, ZM, ZI, ZK, ZB, ZC, ZJ, ZP, ZQ, ZX, ↓ZH, ZN, ZG, ZU, Zp, Zm, Yg, ZS, Yq, put, lk, Od.v, Za, ZE, ZA, YB, Ym, Yn, Yo, unx, YE, DV.isU, DV.cells, hget, Yb, Yj, Yd, ZL, splice, DV.one, Ye, mat, Yi, YD, hA, w0, w1, ZR, e1]; exact ⟨rfl, rfl⟩)] | rw [Zw (by simp [lk, Za, Od.v, hA, w0, w1, ZR, e1]; exact rfl)] | rw [Zx]))
        rw [lp_ret]
        simp [Za, lk]
      rw [hm] at e1
      cases hi0 : i with
      | zero =>
        subst hi0
        refine fin ?_ (by rw [d1]; simp [risL, prev, hm])
        unfold lp109_0
        rw [show ((0 : Nat) : Int) = 0 from rfl] at *
        have w9 : IntKind.i64.wrap 1 = (I : Int) := by rw [wrap64 _ (by omega) (by omega)]; omega
        (repeat (first | rw [Zj] | rw [Zc (by simp [Ya, ZT, ZV, ZW, ZO, ZF, ZM, ZI, ZK, ZB, ZC, ZJ, ZP, ZQ, ZX, ↓ZH, ZN, ZG, ZU, Zp, Zm, Yg, ZS, Yq, put, lk, Od.v, Za, ZE, ZA, YB, Ym, Yn, Yo, unx, YE, DV.isU, DV.cells, hget, Yb, Yj, Yd, ZL, splice, DV.one, Ye, mat, Yi, YD, hA, w0, w1, w9, ZR, e1]; exact ⟨rfl, rfl⟩)] | rw [Zv (by simp [lk, Za, Od.v, hA, w0, w1, w9, ZR, e1]; exact rfl)] | rw [Zp] | rw [Zm] | rw [Zl] | rw [Zy] | rw [Zq] | rw [Zt] | rw [Zo] | rw [Zn] | rw [Zk] | rw [Zg] | rw [Zh] | rw [Zd (by decide)] | rw [Zi] | rw [Ze] | rw [Zf] | rw [Zb (by decide)] | rw [Zz] | rw [Zu (by simp [Ya, ZT, ZV, ZW, ZO, ZF, ZM, ZI, ZK, ZB, ZC, ZJ, ZP, ZQ, ZX, ↓ZH, ZN, ZG, ZU, Zp, Zm, Yg, ZS, Yq, put, lk, Od.v, Za, ZE, ZA, YB, Ym, Yn, Yo, unx, YE, DV.isU, DV.cells, hget, Yb, Yj, Yd, ZL, splice, DV.one, Ye, mat, Yi, YD, hA, w0, w1, w9, ZR, e1]; exact ⟨rfl, rfl⟩)] | rw [Zw (by simp [lk, Za, Od.v, hA, w0, w1, w9, ZR, e1]; exact rfl)] | rw [Zx]))
        simp [Za, lk]
      | succ j =>
        rw [← hi0]
        have w2 : IntKind.i64.wrap ((i : Int) - 1) = (j : Int) := by rw [wrap64 _ (by omega) (by omega)]; omega
        have w3 : j < xs.length := by omega
        have w4 : 0 < i := by omega
        have w5 : (0 : Int) < i := by omega
        have hp' : prev xs i = some xs[j] := by rw [hi0]; exact List.getElem?_eq_getElem w3
        have e2 := run62 xs[j] xs[i]
        by_cases ho : ord xs[j] xs[i] < 0
        · have ho' : ¬ 0 ≤ ord xs[j] xs[i] := by omega
          refine fin ?_ (by rw [d1, hp']; simp [risL, hm, ho])
          unfold lp109_0
          (repeat (first | rw [Zj] | rw [Zc (by simp [Ya, ZT, ZV, ZW, ZO, ZF, ZM, ZI, ZK, ZB, ZC, ZJ, ZP, ZQ, ZX, ↓ZH, ZN, ZG, ZU, Zp, Zm, Yg, ZS, Yq, put, lk, Od.v, Za, ZE, ZA, YB, Ym, Yn, Yo, unx, YE, DV.isU, DV.cells, hget, Yb, Yj, Yd, ZL, splice, DV.one, Ye, mat, Yi, YD, hA, w0, w1, w2, w3, w4, w5, ZR, e1, e2, ho, ho']; exact ⟨rfl, rfl⟩)] | rw [Zv (by simp [lk, Za, Od.v, hA, w0, w1, w2, w3, w4, w5, ZR, e1, e2, ho, ho']; exact rfl)] | rw [Zp] | rw [Zm] | rw [Zl] | rw [Zy] | rw [Zq] | rw [Zt] | rw [Zo] | rw [Zn] | rw [Zk] | rw [Zg] | rw [Zh] | rw [Zd (by decide)] | rw [Zi] | rw [Ze] | rw [Zf] | rw [Zb (by decide)] | rw [Zz] | rw [Zu (by simp [Ya, ZT, ZV, ZW, ZO, ZF, ZM, ZI, ZK, ZB, ZC, ZJ, ZP, ZQ, ZX, ↓ZH, ZN, ZG, ZU, Zp, Zm, Yg, ZS, Yq, put, lk, Od.v, Za, ZE, ZA, YB, Ym, Yn, Yo, unx, YE, DV.isU, DV.cells, hget, Yb, Yj, Yd, ZL, splice, DV.one, Ye, mat, Yi, YD, hA, w0, w1, w2, w3, w4, w5, ZR, e1, e2, ho, ho']; exact ⟨rfl, rfl⟩)] | rw [Zw (by simp [lk, Za, Od.v, hA, w0, w1, w2, w3, w4, w5, ZR, e1, e2, ho, ho']; exact rfl)] | rw [Zx]))
          simp [Za, lk]
        · left
          have ho' : 0 ≤ ord xs[j] xs[i] := by omega
          refine ⟨by rw [d1, hp']; simp [risL, hm, ho], l ++ [HO.box 51 [.int .i64 (xs[i]).k, .int .i64 (xs[i]).n, .str (xs[i]).s, .bool (xs[i]).t]], ?_⟩
          rw [Yh]
          unfold lp109_0
          (repeat (first | rw [Zj] | rw [Zc (by simp [Ya, ZT, ZV, ZW, ZO, ZF, ZM, ZI, ZK, ZB, ZC, ZJ, ZP, ZQ, ZX, ↓ZH, ZN, ZG, ZU, Zp, Zm, Yg, ZS, Yq, put, lk, Od.v, Za, ZE, ZA, YB, Ym, Yn, Yo, unx, YE, DV.isU, DV.cells, hget, Yb, Yj, Yd, ZL, splice, DV.one, Ye, mat, Yi, YD, hA, w0, w1, w2, w3, w4, w5, ZR, e1, e2, ho, ho']; exact ⟨rfl, rfl⟩)] | rw [Zv (by simp [lk, Za, Od.v, hA, w0, w1, w2, w3, w4, w5, ZR, e1, e2, ho, ho']; exact rfl)] | rw [Zp] | rw [Zm] | rw [Zl] | rw [Zy] | rw [Zq] | rw [Zt] | rw [Zo] | rw [Zn] | rw [Zk] | rw [Zg] | rw [Zh] | rw [Zd (by decide)] | rw [Zi] | rw [Ze] | rw [Zf] | rw [Zb (by decide)] | rw [Zz] | rw [Zu (by simp [Ya, ZT, ZV, ZW, ZO, ZF, ZM, ZI, ZK, ZB, ZC, ZJ, ZP, ZQ, ZX, ↓ZH, ZN, ZG, ZU, Zp, Zm, Yg, ZS, Yq, put, lk, Od.v, Za, ZE, ZA, YB, Ym, Yn, Yo, unx, YE, DV.isU, DV.cells, hget, Yb, Yj, Yd, ZL, splice, DV.one, Ye, mat, Yi, YD, hA, w0, w1, w2, w3, w4, w5, ZR, e1, e2, ho, ho']; exact ⟨rfl, rfl⟩)] | rw [Zw (by simp [lk, Za, Od.v, hA, w0, w1, w2, w3, w4, w5, ZR, e1, e2, ho, ho']; exact rfl)] | rw [Zx]))
          rw [lp_ret]
          simp [Za, lk]
    · exact ih i l (by omega) hi
theorem run109 {h : ZD} {A : DV} {xs : List V} (hA : ∀ l, vw (h ++ l) 4 A = some (xs.map V.d)) (hb : xs.length ≤ 1000000) : E X 109 [A] h = some (.bool (risL none xs), h) := by
  have e := loop109 hA hb xs.length 0 [] (by omega) (by omega)
  have hA0 := hA []
  rw [List.append_nil] at hA0
  rw [List.drop_zero, show prev xs 0 = none from rfl, show ((0 : Nat) : Int) = 0 from rfl, List.append_nil] at e
  rw [Yc (X := X) _ b109 _ rfl rfl]; unfold b109
  (repeat (first | rw [Zj] | rw [Zc (by simp [Ya, ZT, ZV, ZW, ZO, ZF, ZM, ZI, ZK, ZB, ZC, ZJ, ZP, ZQ, ZX, ↓ZH, ZN, ZG, ZU, Zp, Zm, Yg, ZS, Yq, put, lk, Od.v, Za, ZE, ZA, YB, Ym, Yn, Yo, unx, YE, DV.isU, DV.cells, hget, Yb, Yj, Yd, ZL, splice, DV.one, Ye, mat, Yi, YD, hA0]; exact ⟨rfl, rfl⟩)] | rw [Zv (by simp [lk, Za, Od.v, hA0]; exact rfl)] | rw [Zp] | rw [Zm] | rw [Zl] | rw [Zy] | rw [Zq] | rw [Zt] | rw [Zo] | rw [Zn] | rw [Zk] | rw [Zg] | rw [Zh] | rw [Zd (by decide)] | rw [Zi] | rw [Ze] | rw [Zf] | rw [Zb (by decide)] | rw [Zz] | rw [Zu (by simp [Ya, ZT, ZV, ZW, ZO, ZF, ZM, ZI, ZK, ZB, ZC, ZJ, ZP, ZQ, ZX, ↓ZH, ZN, ZG, ZU, Zp, Zm, Yg, ZS, Yq, put, lk, Od.v, Za, ZE, ZA, YB, Ym, Yn, Yo, unx, YE, DV.isU, DV.cells, hget, Yb, Yj, Yd, ZL, splice, DV.one, Ye, mat, Yi, YD, hA0]; exact ⟨rfl, rfl⟩)] | rw [Zw (by simp [lk, Za, Od.v, hA0]; exact rfl)] | rw [Zx]))
  (try simp only [Za, List.map_cons, List.map_nil, lk, reduceIte, Nat.reduceEqDiff, Nat.zero_ne_one, Nat.one_ne_zero])
  rcases e with ⟨h1, l', h2⟩ | ⟨h1, e', l', h2⟩
  · rw [h2]
    (repeat (first | rw [Zj] | rw [Zc (by simp [Ya, ZT, ZV, ZW, ZO, ZF, ZM, ZI, ZK, ZB, ZC, ZJ, ZP, ZQ, ZX, ↓ZH, ZN, ZG, ZU, Zp, Zm, Yg, ZS, Yq, put, lk, Od.v, Za, ZE, ZA, YB, Ym, Yn, Yo, unx, YE, DV.isU, DV.cells, hget, Yb, Yj, Yd, ZL, splice, DV.one, Ye, mat, Yi, YD]; exact ⟨rfl, rfl⟩)] | rw [Zv (by simp [lk, Za, Od.v]; exact rfl)] | rw [Zp] | rw [Zm] | rw [Zl] | rw [Zy] | rw [Zq] | rw [Zt] | rw [Zo] | rw [Zn] | rw [Zk] | rw [Zg] | rw [Zh] | rw [Zd (by decide)] | rw [Zi] | rw [Ze] | rw [Zf] | rw [Zb (by decide)] | rw [Zz] | rw [Zu (by simp [Ya, ZT, ZV, ZW, ZO, ZF, ZM, ZI, ZK, ZB, ZC, ZJ, ZP, ZQ, ZX, ↓ZH, ZN, ZG, ZU, Zp, Zm, Yg, ZS, Yq, put, lk, Od.v, Za, ZE, ZA, YB, Ym, Yn, Yo, unx, YE, DV.isU, DV.cells, hget, Yb, Yj, Yd, ZL, splice, DV.one, Ye, mat, Yi, YD]; exact ⟨rfl, rfl⟩)] | rw [Zw (by simp [lk, Za, Od.v]; exact rfl)] | rw [Zx]))
    simp [Zr, Zs, ZY, Ya, ZT, ZV, ZW, ZO, ZF, ZM, ZI, ZK, ZB, ZC, ZJ, ZP, ZQ, ZX, ↓ZH, ZN, ZG, ZU, Zp, Zm, Yg, ZS, Yq, put, lk, Od.v, Za, ZE, ZA, YB, Ym, Yn, Yo, unx, YE, DV.isU, DV.cells, hget, Yb, Yj, Yd, ZL, splice, DV.one, Ye, mat, Yi, YD, fin, Yu, Yt, YA, Yy, YC, h1]
  · rw [h2]
    (repeat (first | rw [Zj] | rw [Zc (by simp [Ya, ZT, ZV, ZW, ZO, ZF, ZM, ZI, ZK, ZB, ZC, ZJ, ZP, ZQ, ZX, ↓ZH, ZN, ZG, ZU, Zp, Zm, Yg, ZS, Yq, put, lk, Od.v, Za, ZE, ZA, YB, Ym, Yn, Yo, unx, YE, DV.isU, DV.cells, hget, Yb, Yj, Yd, ZL, splice, DV.one, Ye, mat, Yi, YD]; exact ⟨rfl, rfl⟩)] | rw [Zv (by simp [lk, Za, Od.v]; exact rfl)] | rw [Zp] | rw [Zm] | rw [Zl] | rw [Zy] | rw [Zq] | rw [Zt] | rw [Zo] | rw [Zn] | rw [Zk] | rw [Zg] | rw [Zh] | rw [Zd (by decide)] | rw [Zi] | rw [Ze] | rw [Zf] | rw [Zb (by decide)] | rw [Zz] | rw [Zu (by simp [Ya, ZT, ZV, ZW, ZO, ZF, ZM, ZI, ZK, ZB, ZC, ZJ, ZP, ZQ, ZX, ↓ZH, ZN, ZG, ZU, Zp, Zm, Yg, ZS, Yq, put, lk, Od.v, Za, ZE, ZA, YB, Ym, Yn, Yo, unx, YE, DV.isU, DV.cells, hget, Yb, Yj, Yd, ZL, splice, DV.one, Ye, mat, Yi, YD]; exact ⟨rfl, rfl⟩)] | rw [Zw (by simp [lk, Za, Od.v]; exact rfl)] | rw [Zx]))
    simp [Zr, Zs, ZY, Ya, ZT, ZV, ZW, ZO, ZF, ZM, ZI, ZK, ZB, ZC, ZJ, ZP, ZQ, ZX, ↓ZH, ZN, ZG, ZU, Zp, Zm, Yg, ZS, Yq, put, lk, Od.v, Za, ZE, ZA, YB, Ym, Yn, Yo, unx, YE, DV.isU, DV.cells, hget, Yb, Yj, Yd, ZL, splice, DV.one, Ye, mat, Yi, YD, fin, Yu, Yt, YA, Yy, YC, h1]
end Go.Proofs.YtojhkbbnkhfnhaaGreatDoor
namespace Go.Proofs.YtojhkbbnkhfnhaaGreatDoor
set_option linter.unusedVariables false
set_option linter.unusedSimpArgs false
theorem bl_irrefl : ∀ x : List UInt8, Op.bytesLess x x = false
  | [] => rfl
  | a :: x => by simp [Op.bytesLess, bl_irrefl x]
theorem bl_trans : ∀ x y z : List UInt8, Op.bytesLess x y = true → Op.bytesLess y z = true → Op.bytesLess x z = true
  | x, [], z, h, _ => by cases x <;> simp [Op.bytesLess] at h
  | x, b :: y, [], _, h => by simp [Op.bytesLess] at h
  | [], b :: y, c :: z, _, _ => rfl
  | a :: x, b :: y, c :: z, h, h' => by
    simp only [Op.bytesLess, Bool.or_eq_true, Bool.and_eq_true, decide_eq_true_eq, beq_iff_eq] at h h' ⊢
    have ih := bl_trans x y z
    simp only [UInt8.lt_iff_toNat_lt, ← UInt8.toNat_inj] at h h' ⊢
    rcases h with h | ⟨h, h1⟩ <;> rcases h' with h' | ⟨h', h2⟩
    · exact .inl (by omega)
    · exact .inl (by omega)
    · exact .inl (by omega)
    · exact .inr ⟨by omega, ih h1 h2⟩
theorem cmpI_neg (a b : Int) : cmpI a b < 0 ↔ a < b := by
  unfold cmpI
  split
  · omega
  · split <;> omega
theorem cmpS_neg (a b : ByteArray) : cmpS a b < 0 ↔ ltS a b = true := by
  unfold cmpS
  cases h : ltS a b <;> simp
  split <;> omega
theorem ord_neg (a b : V) : ord a b < 0 ↔ a.k < b.k ∨ (a.k = b.k ∧ ((a.k = 1 ∧ a.n < b.n) ∨ (a.k = 2 ∧ ltS a.s b.s = true) ∨ (a.k = 3 ∧ a.t = false ∧ b.t = true))) := by
  unfold ord
  by_cases h1 : a.k = b.k
  · rw [if_neg (by simpa using h1)]
    by_cases h2 : a.k = 1
    · rw [if_pos h2, cmpI_neg]
      have h3 : b.k = 1 := by omega
      simp [h1, h2, h3]
    · rw [if_neg h2]
      by_cases h3 : a.k = 2
      · rw [if_pos h3, cmpS_neg]
        have h4 : b.k = 2 := by omega
        simp [h1, h3, h4]
      · rw [if_neg h3]
        by_cases h4 : a.k = 3
        · rw [if_pos h4, cmpI_neg]
          have h5 : b.k = 3 := by omega
          cases a.t <;> cases b.t <;> simp [h1, h4, h5]
        · rw [if_neg h4]
          have g2 : ¬ b.k = 1 := by omega
          have g3 : ¬ b.k = 2 := by omega
          have g4 : ¬ b.k = 3 := by omega
          simp [h1, g2, g3, g4]
  · rw [if_pos h1, cmpI_neg]
    simp [h1]
theorem ord_self (v : V) : ¬ ord v v < 0 := by
  rw [ord_neg]
  rintro (h | ⟨_, h | h | h⟩)
  · omega
  · omega
  · have := h.2; unfold ltS at this; rw [bl_irrefl] at this; cases this
  · rw [h.2.1] at h; cases h.2.2
theorem ord_trans (a b c : V) (h : ord a b < 0) (h' : ord b c < 0) : ord a c < 0 := by
  rw [ord_neg] at *
  rcases h with h | ⟨h, h1⟩ <;> rcases h' with h' | ⟨h', h2⟩
  · left; omega
  · left; omega
  · left; omega
  · right
    refine ⟨by omega, ?_⟩
    rcases h1 with ⟨q, h1⟩ | ⟨q, h1⟩ | ⟨q, h1, h1'⟩ <;> rcases h2 with ⟨r, h2⟩ | ⟨r, h2⟩ | ⟨r, h2, h2'⟩
    · exact .inl ⟨q, by omega⟩
    · omega
    · omega
    · omega
    · exact .inr (.inl ⟨q, bl_trans _ _ _ h1 h2⟩)
    · omega
    · omega
    · omega
    · exact .inr (.inr ⟨q, h1, h2'⟩)
/-- Each value comes ahead of all that stand behind it. -/
def Up (xs : List V) : Prop := xs.Pairwise fun a b => ord a b < 0
theorem risL_some : ∀ (l : List V) (p : V), risL (some p) l = true → Up (p :: l) ∧ ∀ x ∈ l, mayV x = true
  | [], p, _ => ⟨List.pairwise_singleton _ _, by simp⟩
  | a :: l, p, h => by
    simp only [risL, Bool.and_eq_true, decide_eq_true_eq] at h
    obtain ⟨h1, h2, h3⟩ := h
    obtain ⟨i1, i2⟩ := risL_some l a h3
    refine ⟨?_, ?_⟩
    · rw [Up, List.pairwise_cons]
      refine ⟨?_, i1⟩
      intro x hx
      rcases List.mem_cons.1 hx with rfl | hx
      · exact h2
      · exact ord_trans _ _ _ h2 ((List.pairwise_cons.1 i1).1 x hx)
    · intro x hx
      rcases List.mem_cons.1 hx with rfl | hx
      · exact h1
      · exact i2 x hx
theorem risL_none (l : List V) (h : risL none l = true) : Up l ∧ ∀ x ∈ l, mayV x = true := by
  cases l with
  | nil => exact ⟨List.Pairwise.nil, by simp⟩
  | cons a l =>
    simp only [risL, Bool.and_eq_true] at h
    obtain ⟨h1, h2⟩ := risL_some l a h.2
    refine ⟨h1, ?_⟩
    intro x hx
    rcases List.mem_cons.1 hx with rfl | hx
    · exact h.1
    · exact h2 x hx
theorem bs_spec (p : Nat → Bool) (lo hi : Nat) (h : lo ≤ hi) (hm : ∀ i j, i ≤ j → j < hi → p i = true → p j = true) : (∀ i, lo ≤ i → i < bs p lo hi → p i = false) ∧ (∀ i, bs p lo hi ≤ i → i < hi → p i = true) := by
  rw [bs]
  by_cases hlt : lo < hi
  · rw [dif_pos hlt]
    cases hp : p ((lo + hi) / 2)
    · rw [if_neg (by simp)]
      obtain ⟨h1, h2⟩ := bs_spec p ((lo + hi) / 2 + 1) hi (by omega) hm
      refine ⟨fun i hi' hb => ?_, h2⟩
      by_cases hq : (lo + hi) / 2 + 1 ≤ i
      · exact h1 i hq hb
      · cases hpi : p i
        · rfl
        · rw [hm i ((lo + hi) / 2) (by omega) (by omega) hpi] at hp; cases hp
    · rw [if_pos rfl]
      obtain ⟨h1, h2⟩ := bs_spec p lo ((lo + hi) / 2) (by omega) (fun i j hij hj => hm i j hij (by omega))
      refine ⟨h1, fun i hb hi' => ?_⟩
      by_cases hq : i < (lo + hi) / 2
      · exact h2 i hb hq
      · exact hm ((lo + hi) / 2) i (by omega) hi' hp
  · rw [dif_neg hlt]
    exact ⟨fun i h1 h2 => by omega, fun i h1 h2 => by omega⟩
termination_by hi - lo
theorem up_at {xs : List V} (hu : Up xs) {i j : Nat} {a b : V} (hij : i < j) (ha : xs[i]? = some a) (hb : xs[j]? = some b) : ord a b < 0 := by
  obtain ⟨h1, rfl⟩ := List.getElem?_eq_some_iff.1 ha
  obtain ⟨h2, rfl⟩ := List.getElem?_eq_some_iff.1 hb
  exact List.pairwise_iff_getElem.1 hu i j h1 h2 hij
theorem place_spec {xs : List V} (hu : Up xs) (v : V) : (∀ i x, i < place xs v → xs[i]? = some x → ord x v < 0) ∧ (∀ i x, place xs v ≤ i → xs[i]? = some x → ¬ ord x v < 0) := by
  have h := bs_spec (fun i => (xs[i]?.map fun x => decide (ord x v ≥ 0)).getD false) 0 xs.length (Nat.zero_le _) (by
    intro i j hij hj hp
    have hi : i < xs.length := by omega
    simp only [List.getElem?_eq_getElem hi, List.getElem?_eq_getElem hj, Option.map_some, Option.getD_some, decide_eq_true_eq] at hp ⊢
    by_cases hne : i = j
    · subst hne; exact hp
    · have h1 := up_at hu (i := i) (j := j) (by omega) (List.getElem?_eq_getElem hi) (List.getElem?_eq_getElem hj)
      refine Int.not_lt.1 fun h2 => ?_
      have := ord_trans _ _ _ h1 h2
      omega)
  refine ⟨fun i x hi hx => ?_, fun i x hi hx => ?_⟩
  · have h1 := h.1 i (Nat.zero_le _) hi
    rw [hx] at h1
    simpa using h1
  · obtain ⟨hl, _⟩ := List.getElem?_eq_some_iff.1 hx
    have h1 := h.2 i hi hl
    rw [hx] at h1
    simpa using h1
end Go.Proofs.YtojhkbbnkhfnhaaGreatDoor
