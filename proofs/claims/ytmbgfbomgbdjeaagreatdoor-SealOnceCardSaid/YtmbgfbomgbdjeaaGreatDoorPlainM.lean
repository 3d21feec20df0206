/- Ideal runs: few values, lists that rise, places, by the document. Ideal runs: the document's order, find and place. Ideal runs: the document's order; lists that rise. Values: see the texts on dictionaries. Plain Lean: the order of values, lists that rise, where a value stands. -/
import Derived.Test.YtmbgfbomgbdjeaaGreatDoorStep
import Derived.Test.YtmbgfbomgbdjeaaGreatDoorPlainB
namespace Go.Proofs.YtmbgfbomgbdjeaaGreatDoor
attribute [local go_sem] ZL ZD ZC ZE Zs Zh Zq Zk Zm Zc Ze Zl Zt Zu ZF Zr Zi ZB Zx Zw ZV Zz Yn put lk Od.v Za Zg Zn rdc Yd Ye Yc unx eqk DV.isU DV.cells hget ZP Yb ZO Zp splice ZQ mat ZW eqs one_bool one_int one_str one_nilp one_ref one_elem one_nils one_list one_row one_nilm one_map one_nilf one_func one_nili one_ifc one_agg one_tup Yv Yw
attribute [local go_sem ↓] Zj
set_option linter.unusedVariables false
set_option linter.unusedSimpArgs false
set_option maxRecDepth 10000
theorem eqb_comm (a b : V) : a.eqb b = b.eqb a := by
  cases h : a.eqb b <;> cases h' : b.eqb a
  · rfl
  · rw [(V.eqb_iff b a).1 h', (V.eqb_iff _ _).2 rfl] at h; cases h
  · rw [(V.eqb_iff a b).1 h, (V.eqb_iff _ _).2 rfl] at h'; cases h'
  · rfl
def cmpL (x y : List UInt8) : Int := if Op.bytesLess x y then -1 else if !(Op.bytesLess x y || x == y) then 1 else 0
theorem cmpL_eq (a : UInt8) (x y : List UInt8) : cmpL (a :: x) (a :: y) = cmpL x y := by
  simp [cmpL, Op.bytesLess]
theorem cmpL_lt {a b : UInt8} (x y : List UInt8) (h : a < b) : cmpL (a :: x) (b :: y) = -1 := by
  simp [cmpL, Op.bytesLess, h]
theorem cmpL_gt {a b : UInt8} (x y : List UInt8) (h : b < a) : cmpL (a :: x) (b :: y) = 1 := by
  have h1 : ¬ a < b := by rw [UInt8.lt_iff_toNat_lt] at *; omega
  have h2 : a ≠ b := by rintro rfl; exact h1 h
  simp [cmpL, Op.bytesLess, h1, h2]
theorem cmpS_L (a b : ByteArray) : cmpS a b = cmpL a.data.toList b.data.toList := by
  have he : (a == b) = (a.data.toList == b.data.toList) := by
    have h1 : (a == b) = (a.data == b.data) := rfl
    rw [h1]
    by_cases h : a.data = b.data
    · simp [h]
    · have h' : a.data.toList ≠ b.data.toList := fun h2 => h (Array.ext' h2)
      rw [beq_eq_false_iff_ne.2 h, beq_eq_false_iff_ne.2 h']
  simp only [cmpS, ltS, cmpL, ByteArray.toList_eq, he]
/-- Texts that fit into memory. -/
def Sm (v : V) : Prop := v.s.size ≤ 140737488355328
/-- Does a list rise, behind a value? -/
def risL : Option V → List V → Bool
  | _, [] => true
  | none, a :: l => mayV a && risL (some a) l
  | some p, a :: l => mayV a && (decide (ord p a < 0) && risL (some a) l)
def prev (xs : List V) : Nat → Option V
  | 0 => none
  | i + 1 => xs[i]?
theorem loop128 {H2 : Zb} {A : DV} {xs : List V} (hA : ∀ l, vw (H2 ++ l) 4 A = some (xs.map V.d)) (hb : xs.length ≤ 1000000) : ∀ (k i : Nat) (l : Zb), xs.length - i ≤ k → i ≤ xs.length →
    (risL (prev xs i) (xs.drop i) = false ∧ ∃ l', C X (.loop lp128_0) [(0, A), (5, A), (6, .int .i64 xs.length), (7, .int .i64 i)] (H2 ++ l) = some (.ret, [(2, .bool false)], H2 ++ l')) ∨ (risL (prev xs i) (xs.drop i) = true ∧ ∃ e' l', C X (.loop lp128_0) [(0, A), (5, A), (6, .int .i64 xs.length), (7, .int .i64 i)] (H2 ++ l) = some (.exit 0, e', H2 ++ l')) := by
  intro k
  induction k with
  | zero =>
    intro i l hk hi
    obtain rfl : i = xs.length := by omega
    right
    rw [Zf]
    unfold lp128_0
    refine rnx @hA ?_
    rw [ZA]
    exact ⟨by rw [List.drop_length]; cases prev xs xs.length <;> rfl, _, _, rfl⟩
  | succ k ih =>
    intro i l hk hi
    by_cases w0 : i < xs.length
    · obtain ⟨I, hI⟩ : ∃ I, I = i + 1 := ⟨_, rfl⟩
      have w1 : IntKind.i64.wrap ((i : Int) + 1) = (I : Int) := by rw [wrap64 _ (by omega) (by omega)]; omega
      have d1 : xs.drop i = xs[i] :: xs.drop (i + 1) := List.drop_eq_getElem_cons w0
      have hp : prev xs I = some xs[i] := by rw [hI]; exact List.getElem?_eq_getElem w0
      have e1 := run84 xs[i]
      have fin : C X lp128_0 [(0, A), (5, A), (6, .int .i64 xs.length), (7, .int .i64 i)] (H2 ++ l) = some (.norm, [(0, A), (5, A), (6, .int .i64 xs.length), (7, .int .i64 I)], H2 ++ (l ++ [HO.box 56 [.int .i64 (xs[i]).k, .int .i64 (xs[i]).n, .str (xs[i]).s, .bool (xs[i]).t]])) → risL (prev xs i) (xs.drop i) = risL (some xs[i]) (xs.drop (i + 1)) →
          (risL (prev xs i) (xs.drop i) = false ∧ ∃ l', C X (.loop lp128_0) [(0, A), (5, A), (6, .int .i64 xs.length), (7, .int .i64 i)] (H2 ++ l) = some (.ret, [(2, .bool false)], H2 ++ l')) ∨ (risL (prev xs i) (xs.drop i) = true ∧ ∃ e' l', C X (.loop lp128_0) [(0, A), (5, A), (6, .int .i64 xs.length), (7, .int .i64 i)] (H2 ++ l) = some (.exit 0, e', H2 ++ l')) := by
        intro hs hr
        rw [Zf, hs, ZJ, hr, ← hp, ← hI]
        exact ih I _ (by omega) (by omega)
      cases hm : mayV xs[i]
      · left
        rw [hm] at e1
        refine ⟨by rw [d1]; cases prev xs i <;> simp [risL, hm], l ++ [HO.box 56 [.int .i64 (xs[i]).k, .int .i64 (xs[i]).n, .str (xs[i]).s, .bool (xs[i]).t]], ?_⟩
        rw [Zf]
        unfold lp128_0
        (repeat (first | rw [ZN] | rw [Zo (by simp [ZL, ZD, ZC, ZE, Zs, Zh, Zq, Zk, Zm, Zc, Ze, Zl, Zt, Zu, ZF, ↓Zj, Zr, Zi, ZB, Zx, Zw, ZV, Zz, Yn, put, lk, Od.v, Za, Zg, Zn, rdc, Yd, Ye, Yc, unx, eqk, DV.isU, DV.cells, hget, ZP, Yb, ZO, Zp, splice, DV.one, ZQ, mat, ZW, eqs, hA, w0, w1, ldx, e1]; exact ⟨rfl, rfl⟩)] | rw [Yj (by simp [lk, Za, Od.v, hA, w0, w1, ldx, e1]; exact rfl)] | rw [Zx] | rw [Zw] | rw [ZZ] | rw [Yq] | rw [Yf] | rw [Yp] | rw [Yh] | rw [Yg] | rw [ZY] | rw [ZT] | rw [ZU] | rw [ZM (by decide)] | rw [ZR] | rw [ZI] | rw [ZK] | rw [ZG (by decide)] | rw [Yt] | rw [Yr (by simp [ZL, ZD, ZC, ZE, Zs, Zh, Zq, Zk, Zm, Zc, Ze, Zl, Zt, Zu, ZF, ↓Zj, Zr, Zi, ZB, Zx, Zw, ZV, Zz, Yn, put, lk, Od.v, Za, Zg, Zn, rdc, Yd, Ye, Yc, unx, eqk, DV.isU, DV.cells, hget, ZP, Yb, ZO, Zp, splice, DV.one, ZQ, mat, ZW, eqs, hA, w0, w1, ldx, e1]; exact ⟨rfl, rfl⟩)] | rw [Ys (by simp [lk, Za, Od.v, hA, w0, w1, ldx, e1]; exact rfl)] | rw [Yo]))
        rw [lp_ret]
        simp [Za, lk]
      rw [hm] at e1
      cases hi0 : i with
      | zero =>
        subst hi0
        refine fin ?_ (by rw [d1]; simp [risL, prev, hm])
        unfold lp128_0
        rw [show ((0 : Nat) : Int) = 0 from rfl] at *
        have w9 : IntKind.i64.wrap 1 = (I : Int) := by rw [wrap64 _ (by omega) (by omega)]; omega
        (repeat (first | rw [ZN] | rw [Zo (by simp [ZL, ZD, ZC, ZE, Zs, Zh, Zq, Zk, Zm, Zc, Ze, Zl, Zt, Zu, ZF, ↓Zj, Zr, Zi, ZB, Zx, Zw, ZV, Zz, Yn, put, lk, Od.v, Za, Zg, Zn, rdc, Yd, Ye, Yc, unx, eqk, DV.isU, DV.cells, hget, ZP, Yb, ZO, Zp, splice, DV.one, ZQ, mat, ZW, eqs, hA, w0, w1, w9, ldx, e1]; exact ⟨rfl, rfl⟩)] | rw [Yj (by simp [lk, Za, Od.v, hA, w0, w1, w9, ldx, e1]; exact rfl)] | rw [Zx] | rw [Zw] | rw [ZZ] | rw [Yq] | rw [Yf] | rw [Yp] | rw [Yh] | rw [Yg] | rw [ZY] | rw [ZT] | rw [ZU] | rw [ZM (by decide)] | rw [ZR] | rw [ZI] | rw [ZK] | rw [ZG (by decide)] | rw [Yt] | rw [Yr (by simp [ZL, ZD, ZC, ZE, Zs, Zh, Zq, Zk, Zm, Zc, Ze, Zl, Zt, Zu, ZF, ↓Zj, Zr, Zi, ZB, Zx, Zw, ZV, Zz, Yn, put, lk, Od.v, Za, Zg, Zn, rdc, Yd, Ye, Yc, unx, eqk, DV.isU, DV.cells, hget, ZP, Yb, ZO, Zp, splice, DV.one, ZQ, mat, ZW, eqs, hA, w0, w1, w9, ldx, e1]; exact ⟨rfl, rfl⟩)] | rw [Ys (by simp [lk, Za, Od.v, hA, w0, w1, w9, ldx, e1]; exact rfl)] | rw [Yo]))
        simp [Za, lk]
      | succ j =>
        rw [← hi0]
        have w2 : IntKind.i64.wrap ((i : Int) - 1) = (j : Int) := by rw [wrap64 _ (by omega) (by omega)]; omega
        have w3 : j < xs.length := by omega
        have w4 : 0 < i := by omega
        have w5 : (0 : Int) < i := by omega
        have hp' : prev xs i = some xs[j] := by rw [hi0]; exact List.getElem?_eq_getElem w3
        have e2 := run68 xs[j] xs[i]
        by_cases ho : ord xs[j] xs[i] < 0
        · have ho' : ¬ 0 ≤ ord xs[j] xs[i] := by omega
          refine fin ?_ (by rw [d1, hp']; simp [risL, hm, ho])
          unfold lp128_0
          (repeat (first | rw [ZN] | rw [Zo (by simp [ZL, ZD, ZC, ZE, Zs, Zh, Zq, Zk, Zm, Zc, Ze, Zl, Zt, Zu, ZF, ↓Zj, Zr, Zi, ZB, Zx, Zw, ZV, Zz, Yn, put, lk, Od.v, Za, Zg, Zn, rdc, Yd, Ye, Yc, unx, eqk, DV.isU, DV.cells, hget, ZP, Yb, ZO, Zp, splice, DV.one, ZQ, mat, ZW, eqs, hA, w0, w1, w2, w3, w4, w5, ldx, e1, e2, ho, ho']; exact ⟨rfl, rfl⟩)] | rw [Yj (by simp [lk, Za, Od.v, hA, w0, w1, w2, w3, w4, w5, ldx, e1, e2, ho, ho']; exact rfl)] | rw [Zx] | rw [Zw] | rw [ZZ] | rw [Yq] | rw [Yf] | rw [Yp] | rw [Yh] | rw [Yg] | rw [ZY] | rw [ZT] | rw [ZU] | rw [ZM (by decide)] | rw [ZR] | rw [ZI] | rw [ZK] | rw [ZG (by decide)] | rw [Yt] | rw [Yr (by simp [ZL, ZD, ZC, ZE, Zs, Zh, Zq, Zk, Zm, Zc, Ze, Zl, Zt, Zu, ZF, ↓Zj, Zr, Zi, ZB, Zx, Zw, ZV, Zz, Yn, put, lk, Od.v, Za, Zg, Zn, rdc, Yd, Ye, Yc, unx, eqk, DV.isU, DV.cells, hget, ZP, Yb, ZO, Zp, splice, DV.one, ZQ, mat, ZW, eqs, hA, w0, w1, w2, w3, w4, w5, ldx, e1, e2, ho, ho']; exact ⟨rfl, rfl⟩)] | rw [Ys (by simp [lk, Za, Od.v, hA, w0, w1, w2, w3, w4, w5, ldx, e1, e2, ho, ho']; exact rfl)] | rw [Yo]))
          simp [Za, lk]
        · left
          have ho' : 0 ≤ ord xs[j] xs[i] := by omega
          refine ⟨by rw [d1, hp']; simp [risL, hm, ho], l ++ [HO.box 56 [.int .i64 (xs[i]).k, .int .i64 (xs[i]).n, .str (xs[i]).s, .bool (xs[i]).t]], ?_⟩
          rw [Zf]
          unfold lp128_0
          (repeat (first | rw [ZN] | rw [Zo (by simp [ZL, ZD, ZC, ZE, Zs, Zh, Zq, Zk, Zm, Zc, Ze, Zl, Zt, Zu, ZF, ↓Zj, Zr, Zi, ZB, Zx, Zw, ZV, Zz, Yn, put, lk, Od.v, Za, Zg, Zn, rdc, Yd, Ye, Yc, unx, eqk, DV.isU, DV.cells, hget, ZP, Yb, ZO, Zp, splice, DV.one, ZQ, mat, ZW, eqs, hA, w0, w1, w2, w3, w4, w5, ldx, e1, e2, ho, ho']; exact ⟨rfl, rfl⟩)] | rw [Yj (by simp [lk, Za, Od.v, hA, w0, w1, w2, w3, w4, w5, ldx, e1, e2, ho, ho']; exact rfl)] | rw [Zx] | rw [Zw] | rw [ZZ] | rw [Yq] | rw [Yf] | rw [Yp] | rw [Yh] | rw [Yg] | rw [ZY] | rw [ZT] | rw [ZU] | rw [ZM (by decide)] | rw [ZR] | rw [ZI] | rw [ZK] | rw [ZG (by decide)] | rw [Yt] | rw [Yr (by simp [ZL, ZD, ZC, ZE, Zs, Zh, Zq, Zk, Zm, Zc, Ze, Zl, Zt, Zu, ZF, ↓Zj, Zr, Zi, ZB, Zx, Zw, ZV, Zz, Yn, put, lk, Od.v, Za, Zg, Zn, rdc, Yd, Ye, Yc, unx, eqk, DV.isU, DV.cells, hget, ZP, Yb, ZO, Zp, splice, DV.one, ZQ, mat, ZW, eqs, hA, w0, w1, w2, w3, w4, w5, ldx, e1, e2, ho, ho']; exact ⟨rfl, rfl⟩)] | rw [Ys (by simp [lk, Za, Od.v, hA, w0, w1, w2, w3, w4, w5, ldx, e1, e2, ho, ho']; exact rfl)] | rw [Yo]))
          rw [lp_ret]
          simp [Za, lk]
    · exact ih i l (by omega) hi
theorem run128 {h : Zb} {A : DV} {xs : List V} (hA : ∀ l, vw (h ++ l) 4 A = some (xs.map V.d)) (hb : xs.length ≤ 1000000) : E X 128 [A] h = some (.bool (risL none xs), h) := by
  have e := loop128 hA hb xs.length 0 [] (by omega) (by omega)
  have hA0 := hA []
  rw [List.append_nil] at hA0
  rw [List.drop_zero, show prev xs 0 = none from rfl, show ((0 : Nat) : Int) = 0 from rfl, List.append_nil] at e
  rw [ZH (X := X) _ b128 _ rfl rfl]; unfold b128
  refine rnx @hA0 ?_
  refine keG ?_
  rcases e with ⟨h1, l', h2⟩ | ⟨h1, e', l', h2⟩
  · rw [h2]
    refine rnx trivial ?_
    exact rex @h1
  · rw [h2]
    refine rnx trivial ?_
    exact rex @h1
end Go.Proofs.YtmbgfbomgbdjeaaGreatDoor
namespace Go.Proofs.YtmbgfbomgbdjeaaGreatDoor
set_option linter.unusedVariables false
set_option linter.unusedSimpArgs false
theorem bl_irrefl : ∀ x : List UInt8, Op.bytesLess x x = false
  | [] => rfl
  | a :: x => by simp [Op.bytesLess, bl_irrefl x]
theorem bl_or : ∀ x y z : List UInt8, Op.bytesLess x z = true → Op.bytesLess x y = true ∨ Op.bytesLess y z = true
  | x, y, [], h => by cases x <;> simp [Op.bytesLess] at h
  | [], [], c :: z, h => .inr rfl
  | [], b :: y, c :: z, h => .inl rfl
  | a :: x, [], c :: z, h => .inr rfl
  | a :: x, b :: y, c :: z, h => by
    simp only [Op.bytesLess, Bool.or_eq_true, Bool.and_eq_true, decide_eq_true_eq, beq_iff_eq] at h ⊢
    have ih := bl_or x y z
    simp only [UInt8.lt_iff_toNat_lt, ← UInt8.toNat_inj] at h ⊢
    rcases h with h | ⟨h, h'⟩
    · by_cases h1 : a.toNat < b.toNat
      · exact .inl (.inl h1)
      · exact .inr (.inl (by omega))
    · by_cases h1 : a.toNat < b.toNat
      · exact .inl (.inl h1)
      · by_cases h2 : b.toNat < c.toNat
        · exact .inr (.inl h2)
        · rcases ih h' with h3 | h3
          · exact .inl (.inr ⟨by omega, h3⟩)
          · exact .inr (.inr ⟨by omega, h3⟩)
theorem bl_trans : ∀ x y z : List UInt8, Op.bytesLess x y = true → Op.bytesLess y z = true → Op.bytesLess x z = true
  | x, [], z, h, _ => by cases x <;> simp [Op.bytesLess] at h
  | x, b :: y, [], _, h => by simp [Op.bytesLess] at h
  | [], b :: y, c :: z, _, _ => rfl
  | a :: x, b :: y, c :: z, h, h' => by
    simp only [Op.bytesLess, Bool.or_eq_true, Bool.and_eq_true, decide_eq_true_eq, beq_iff_eq] at h h' ⊢
    have ih := bl_trans x y z
    simp only [UInt8.lt_iff_toNat_lt, ← UInt8.toNat_inj] at h h' ⊢
    rcases h with h | ⟨h, h1⟩ <;> rcases h' with h' | ⟨h', h2⟩
    · exact .inl (by omega)
    · exact .inl (by omega)
    · exact .inl (by omega)
    · exact .inr ⟨by omega, ih h1 h2⟩
theorem cmpI_neg (a b : Int) : cmpI a b < 0 ↔ a < b := by
  unfold cmpI
  split
  · omega
  · split <;> omega
theorem cmpS_neg (a b : ByteArray) : cmpS a b < 0 ↔ ltS a b = true := by
  unfold cmpS
  cases h : ltS a b <;> simp
  split <;> omega
theorem ord_neg (a b : V) : ord a b < 0 ↔ a.k < b.k ∨ (a.k = b.k ∧ ((a.k = 1 ∧ a.n < b.n) ∨ (a.k = 2 ∧ ltS a.s b.s = true) ∨ (a.k = 3 ∧ a.t = false ∧ b.t = true))) := by
  unfold ord
  by_cases h1 : a.k = b.k
  · rw [if_neg (by simpa using h1)]
    by_cases h2 : a.k = 1
    · rw [if_pos h2, cmpI_neg]
      have h3 : b.k = 1 := by omega
      simp [h1, h2, h3]
    · rw [if_neg h2]
      by_cases h3 : a.k = 2
      · rw [if_pos h3, cmpS_neg]
        have h4 : b.k = 2 := by omega
        simp [h1, h3, h4]
      · rw [if_neg h3]
        by_cases h4 : a.k = 3
        · rw [if_pos h4, cmpI_neg]
          have h5 : b.k = 3 := by omega
          cases a.t <;> cases b.t <;> simp [h1, h4, h5]
        · rw [if_neg h4]
          have g2 : ¬ b.k = 1 := by omega
          have g3 : ¬ b.k = 2 := by omega
          have g4 : ¬ b.k = 3 := by omega
          simp [h1, g2, g3, g4]
  · rw [if_pos h1, cmpI_neg]
    simp [h1]
theorem ord_self (v : V) : ¬ ord v v < 0 := by
  rw [ord_neg]
  rintro (h | ⟨_, h | h | h⟩)
  · omega
  · omega
  · have := h.2; unfold ltS at this; rw [bl_irrefl] at this; cases this
  · rw [h.2.1] at h; cases h.2.2
theorem ord_trans (a b c : V) (h : ord a b < 0) (h' : ord b c < 0) : ord a c < 0 := by
  rw [ord_neg] at *
  rcases h with h | ⟨h, h1⟩ <;> rcases h' with h' | ⟨h', h2⟩
  · left; omega
  · left; omega
  · left; omega
  · right
    refine ⟨by omega, ?_⟩
    rcases h1 with ⟨q, h1⟩ | ⟨q, h1⟩ | ⟨q, h1, h1'⟩ <;> rcases h2 with ⟨r, h2⟩ | ⟨r, h2⟩ | ⟨r, h2, h2'⟩
    · exact .inl ⟨q, by omega⟩
    · omega
    · omega
    · omega
    · exact .inr (.inl ⟨q, bl_trans _ _ _ h1 h2⟩)
    · omega
    · omega
    · omega
    · exact .inr (.inr ⟨q, h1, h2'⟩)
theorem ord_or (a b c : V) (h : ord a c < 0) : ord a b < 0 ∨ ord b c < 0 := by
  rw [ord_neg] at h
  rw [ord_neg, ord_neg]
  rcases h with h | ⟨h, h1⟩
  · by_cases q : a.k < b.k
    · exact .inl (.inl q)
    · exact .inr (.inl (by omega))
  · by_cases q : a.k < b.k
    · exact .inl (.inl q)
    · by_cases q' : b.k < c.k
      · exact .inr (.inl q')
      · have e1 : a.k = b.k := by omega
        have e2 : b.k = c.k := by omega
        rcases h1 with ⟨q, h1⟩ | ⟨q, h1⟩ | ⟨q, h1, h1'⟩
        · by_cases h2 : a.n < b.n
          · exact .inl (.inr ⟨e1, .inl ⟨q, h2⟩⟩)
          · exact .inr (.inr ⟨e2, .inl ⟨by omega, by omega⟩⟩)
        · rcases bl_or _ b.s.toList _ h1 with h2 | h2
          · exact .inl (.inr ⟨e1, .inr (.inl ⟨q, h2⟩)⟩)
          · exact .inr (.inr ⟨e2, .inr (.inl ⟨by omega, h2⟩)⟩)
        · cases hb : b.t
          · exact .inr (.inr ⟨e2, .inr (.inr ⟨by omega, rfl, h1'⟩)⟩)
          · exact .inl (.inr ⟨e1, .inr (.inr ⟨q, h1, rfl⟩)⟩)
/-- Each value comes ahead of all that stand behind it. -/
def Up (xs : List V) : Prop := xs.Pairwise fun a b => ord a b < 0
theorem risL_some : ∀ (l : List V) (p : V), risL (some p) l = true → Up (p :: l) ∧ ∀ x ∈ l, mayV x = true
  | [], p, _ => ⟨List.pairwise_singleton _ _, by simp⟩
  | a :: l, p, h => by
    simp only [risL, Bool.and_eq_true, decide_eq_true_eq] at h
    obtain ⟨h1, h2, h3⟩ := h
    obtain ⟨i1, i2⟩ := risL_some l a h3
    refine ⟨?_, ?_⟩
    · rw [Up, List.pairwise_cons]
      refine ⟨?_, i1⟩
      intro x hx
      rcases List.mem_cons.1 hx with rfl | hx
      · exact h2
      · exact ord_trans _ _ _ h2 ((List.pairwise_cons.1 i1).1 x hx)
    · intro x hx
      rcases List.mem_cons.1 hx with rfl | hx
      · exact h1
      · exact i2 x hx
theorem risL_none (l : List V) (h : risL none l = true) : Up l ∧ ∀ x ∈ l, mayV x = true := by
  cases l with
  | nil => exact ⟨List.Pairwise.nil, by simp⟩
  | cons a l =>
    simp only [risL, Bool.and_eq_true] at h
    obtain ⟨h1, h2⟩ := risL_some l a h.2
    refine ⟨h1, ?_⟩
    intro x hx
    rcases List.mem_cons.1 hx with rfl | hx
    · exact h.1
    · exact h2 x hx
theorem bs_spec (p : Nat → Bool) (lo hi : Nat) (h : lo ≤ hi) (hm : ∀ i j, i ≤ j → j < hi → p i = true → p j = true) : (∀ i, lo ≤ i → i < bs p lo hi → p i = false) ∧ (∀ i, bs p lo hi ≤ i → i < hi → p i = true) := by
  rw [bs]
  by_cases hlt : lo < hi
  · rw [dif_pos hlt]
    cases hp : p ((lo + hi) / 2)
    · rw [if_neg (by simp)]
      obtain ⟨h1, h2⟩ := bs_spec p ((lo + hi) / 2 + 1) hi (by omega) hm
      refine ⟨fun i hi' hb => ?_, h2⟩
      by_cases hq : (lo + hi) / 2 + 1 ≤ i
      · exact h1 i hq hb
      · cases hpi : p i
        · rfl
        · rw [hm i ((lo + hi) / 2) (by omega) (by omega) hpi] at hp; cases hp
    · rw [if_pos rfl]
      obtain ⟨h1, h2⟩ := bs_spec p lo ((lo + hi) / 2) (by omega) (fun i j hij hj => hm i j hij (by omega))
      refine ⟨h1, fun i hb hi' => ?_⟩
      by_cases hq : i < (lo + hi) / 2
      · exact h2 i hb hq
      · exact hm ((lo + hi) / 2) i (by omega) hi' hp
  · rw [dif_neg hlt]
    exact ⟨fun i h1 h2 => by omega, fun i h1 h2 => by omega⟩
termination_by hi - lo
theorem up_at {xs : List V} (hu : Up xs) {i j : Nat} {a b : V} (hij : i < j) (ha : xs[i]? = some a) (hb : xs[j]? = some b) : ord a b < 0 := by
  obtain ⟨h1, rfl⟩ := List.getElem?_eq_some_iff.1 ha
  obtain ⟨h2, rfl⟩ := List.getElem?_eq_some_iff.1 hb
  exact List.pairwise_iff_getElem.1 hu i j h1 h2 hij
theorem place_spec {xs : List V} (hu : Up xs) (v : V) : (∀ i x, i < place xs v → xs[i]? = some x → ord x v < 0) ∧ (∀ i x, place xs v ≤ i → xs[i]? = some x → ¬ ord x v < 0) := by
  have h := bs_spec (fun i => (xs[i]?.map fun x => decide (ord x v ≥ 0)).getD false) 0 xs.length (Nat.zero_le _) (by
    intro i j hij hj hp
    have hi : i < xs.length := by omega
    simp only [List.getElem?_eq_getElem hi, List.getElem?_eq_getElem hj, Option.map_some, Option.getD_some, decide_eq_true_eq] at hp ⊢
    by_cases hne : i = j
    · subst hne; exact hp
    · have h1 := up_at hu (i := i) (j := j) (by omega) (List.getElem?_eq_getElem hi) (List.getElem?_eq_getElem hj)
      refine Int.not_lt.1 fun h2 => ?_
      have := ord_trans _ _ _ h1 h2
      omega)
  refine ⟨fun i x hi hx => ?_, fun i x hi hx => ?_⟩
  · have h1 := h.1 i (Nat.zero_le _) hi
    rw [hx] at h1
    simpa using h1
  · obtain ⟨hl, _⟩ := List.getElem?_eq_some_iff.1 hx
    have h1 := h.2 i hi hl
    rw [hx] at h1
    simpa using h1
theorem fnd_none (v : V) : ∀ (l : List V) (i : Nat), fnd v l i = none → ∀ x ∈ l, v.eqb x = false
  | [], _, _ => by simp
  | a :: l, i, h => by
    simp only [fnd] at h
    cases hv : v.eqb a
    · rw [hv] at h
      intro x hx
      rcases List.mem_cons.1 hx with rfl | hx
      · exact hv
      · exact fnd_none v l (i + 1) (by simpa using h) x hx
    · rw [hv] at h; cases h
theorem found_iff {xs : List V} (hu : Up xs) (v : V) : found xs v = (fnd v xs 0).isSome := by
  have h := place_spec hu v
  cases hf : fnd v xs 0 with
  | none =>
    have hn := fnd_none v xs 0 hf
    unfold found
    cases hx : xs[place xs v]? with
    | none => rfl
    | some x =>
      have := hn x (List.mem_of_getElem? hx)
      simp [eqb_comm x v, this]
  | some j =>
    obtain ⟨_, h2, h3⟩ := fnd_lt v xs 0 j hf
    rw [Nat.sub_zero] at h3
    have hp : place xs v ≤ j := by
      refine Nat.not_lt.1 fun hlt => ord_self v (h.1 j v hlt h3)
    have hj : place xs v = j := by
      refine Nat.le_antisymm hp (Nat.not_lt.1 fun hlt => ?_)
      have hx : xs[place xs v]? = some xs[place xs v] := List.getElem?_eq_getElem (by omega)
      exact h.2 _ _ (Nat.le_refl _) hx (up_at hu hlt hx h3)
    unfold found
    rw [hj, h3]
    simp [(V.eqb_iff v v).2 rfl]
end Go.Proofs.YtmbgfbomgbdjeaaGreatDoor
