/- Ideal runs: the document's numbers of few bits: spread, Unpack. Lists that grow in the heap. Ideal runs: the document's answer on columns (winnowerref10): Ids, Values, Light. Ideal runs: the values of a column (winnowerref10.Values, column.Values); light columns. Ideal runs: filter.across, filter.span. -/
import Derived.Test.YtojhkbbnkhfnhaaDoorColH
import Derived.Test.YtojhkbbnkhfnhaaDoorWrap
import Derived.Test.YtojhkbbnkhfnhaaDoorPlainB
import Derived.Test.YtojhkbbnkhfnhaaDoorNod
namespace Go.Proofs.YtojhkbbnkhfnhaaDoor
attribute [local go_sem] ZX ZS ZU ZV ZN ZE ZL ZH ZJ Zu Zv ZI ZO ZP ZW ZM ZF ZT Zn Zm Ye ZR Yp put lk Od.v Za ZD Zl Yt Yi Yj Yk YA Yx DV.isU DV.cells hget ZY Yh Ya ZK splice Yb mat Yf Yw one_bool one_int one_str one_nilp one_ref one_elem one_nils one_list one_row one_nilm one_map one_nilf one_func one_nili one_ifc one_agg one_tup one_undef one_fresh
attribute [local go_sem ↓] ZG
set_option linter.unusedVariables false
set_option linter.unusedSimpArgs false
set_option maxRecDepth 10000
/-- A list that is told alone. -/
theorem fin_gr1 {T : Nat} {f : Nat → DV} {H h : ZQ} {d : DV} {ws : List Nat} (hg : Grow T f H h d ws) (hf : ∀ x, Nr (f x)) : ∃ R, fin H h [d] = (R, H) ∧ ((R = .nils ∧ ws = []) ∨ R = .fresh T 1 (ws.map f)) := by
  obtain ⟨ht, hr⟩ := hg
  rcases hr with ⟨rfl, rfl⟩ | ⟨g, o, rfl, h2, h3⟩
  · exact ⟨.nils, by simp [fin, ht, YC, YD], .inl ⟨rfl, rfl⟩⟩
  · refine ⟨.fresh T 1 (ws.map f), ?_, .inr rfl⟩
    have hN : ∀ x ∈ ws.map f, Nr x := fun x hx => by
      obtain ⟨n, _, rfl⟩ := List.mem_map.1 hx
      exact hf n
    simp only [fin]
    rw [if_pos ht]
    simp only [YC, YD]
    rw [if_neg (by omega), h3]
    simp only
    rw [if_pos ⟨rfl, by simp, hN⟩]
    simp
theorem loop79 {H : ZQ} {L : DV} {bs : List Nat} (hL : ∀ g, vw g 1 L = some (bs.map bD)) (bb : BB bs) (hb : bs.length ≤ 10000) :
    ∀ (k i : Nat) (o : DV) (h : ZQ), bs.length - i ≤ k → i ≤ bs.length → Grow 3 iD H h o (allR (bs.take i) 8) → ∃ y o' h' ex, C X (.loop lp79_0) [(0, L), (3, o), (4, .int .i64 i)] h = some (.exit 0, (0, L) :: (3, o') :: (4, y) :: ex, h') ∧ Grow 3 iD H h' o' (allR bs 8) := by
  intro k
  induction k with
  | zero =>
    intro i o h hk hi hG
    obtain rfl : i = bs.length := by omega
    rw [List.take_length] at hG
    refine ⟨.int .i64 bs.length, o, h, [(8, .bool false)], ?_, hG⟩
    rw [Yl]
    unfold lp79_0
    (repeat (first | rw [Zj] | rw [Zc (by simp [go_sem, hL]; exact ⟨rfl, rfl⟩)] | rw [Zx (by simp [lk, Za, Od.v, hL]; exact rfl)] | rw [Zn] | rw [Zm] | rw [Zo] | rw [ZA] | rw [Zr] | rw [Zw] | rw [Zq] | rw [Zp] | rw [Zk] | rw [Zg] | rw [Zh] | rw [Zd (by decide)] | rw [Zi] | rw [Ze] | rw [Zf] | rw [Zb (by decide)] | rw [ZB] | rw [Zt (by simp [go_sem, hL]; exact ⟨rfl, rfl⟩)] | rw [Zy (by simp [lk, Za, Od.v, hL]; exact rfl)] | rw [Zz]))
    rw [YB]
    simp [Za, lk]
  | succ k ih =>
    intro i o h hk hi hG
    by_cases c : i < bs.length
    · obtain ⟨I, hI⟩ : ∃ I, I = i + 1 := ⟨_, rfl⟩
      have z1 : IntKind.i64.wrap ((i : Int) + 1) = (I : Int) := (by rw [wrap64 _ (by omega) (by omega)]; omega)
      have hat := allR_take 8 bs i c
      rw [← hI] at hat
      have hn := bb _ (List.getElem_mem c)
      obtain ⟨n, hnn⟩ : ∃ n, n = bs[i] := ⟨_, rfl⟩
      rw [← hnn] at hat hn
      have hnn' := hnn.symm
      have hln : bs[i]? = some n := by rw [List.getElem?_eq_getElem c, hnn]
      have hlen : (allR (bs.take i) 8).length ≤ 10000 * 8 := by
        rw [allR_len]
        exact Nat.mul_le_mul (by rw [List.length_take]; omega) (Nat.le_refl _)
      have hw0 := hG.vw0
      have z2 : IntKind.i64.wrap (n : Int) = (n : Int) := wrap64 _ (by omega) (by omega)
      obtain ⟨d, e107, hD⟩ := run114 (H := h) n 8 (by omega) (by omega)
      have e107 : E X 114 [.int .i64 n, .int .i64 8] h = some (d, h) := e107
      have h8 := numR_len n 8
      rcases hD with ⟨_, hnil⟩ | rfl
      · rw [hnil] at h8; cases h8
      have hG2 := hG.ext [.row 3 1 0 ((numR n 8).map iD)]
      obtain ⟨o', h', ha, hG'⟩ := hG2.app 8 (numR n 8) (by rw [h8]; omega)
      rw [← hat] at hG'
      have hw2 := hG.vw [.row 3 1 0 ((numR n 8).map iD)]
      have s1 : srcOf (h ++ [.row 3 1 0 ((numR n 8).map iD)]) 1 (.row h.length 0 0 (numR n 8).length false) = some ((numR n 8).map iD) := by
        simp [srcOf, vw, List.take_of_length_le]
      have hs : C X lp79_0 [(0, L), (3, o), (4, .int .i64 i)] h = some (.norm, [(0, L), (3, o'), (4, .int .i64 I)], h') := by
        clear ih hG hG' hat hG2
        generalize allR (bs.take i) 8 = aw at *
        generalize numR n 8 = nw at *
        unfold lp79_0
        (repeat (first | rw [Zj] | rw [Zc (by simp [go_sem, c, z1, z2, hL, hw0, hln, hnn', ZZ, e107, hw2, s1, ha]; exact ⟨rfl, rfl⟩)] | rw [Zx (by simp [lk, Za, Od.v, c, z1, z2, hL, hw0, hln, hnn', ZZ, e107, hw2, s1, ha]; exact rfl)] | rw [Zn] | rw [Zm] | rw [Zo] | rw [ZA] | rw [Zr] | rw [Zw] | rw [Zq] | rw [Zp] | rw [Zk] | rw [Zg] | rw [Zh] | rw [Zd (by decide)] | rw [Zi] | rw [Ze] | rw [Zf] | rw [Zb (by decide)] | rw [ZB] | rw [Zt (by simp [go_sem, c, z1, z2, hL, hw0, hln, hnn', ZZ, e107, hw2, s1, ha]; exact ⟨rfl, rfl⟩)] | rw [Zy (by simp [lk, Za, Od.v, c, z1, z2, hL, hw0, hln, hnn', ZZ, e107, hw2, s1, ha]; exact rfl)] | rw [Zz]))
        simp [Za, lk]
      rw [Yl, hs, Yy]
      exact ih I o' h' (by omega) (by omega) hG'
    · exact ih i o h (by omega) hi hG
theorem run79 {H : ZQ} {L : DV} {bs : List Nat} (hL : ∀ g, vw g 1 L = some (bs.map bD)) (bb : BB bs) (hb : bs.length ≤ 10000) : ∃ d, E X 79 [L] H = some (d, H) ∧ ((d = .nils ∧ allR bs 8 = []) ∨ d = .fresh 3 1 ((allR bs 8).map iD)) := by
  obtain ⟨y, o', h', ex, hc, hG⟩ := loop79 (H := H) hL bb hb bs.length 0 .nils H (by omega) (by omega) Grow.zero
  obtain ⟨R, hf, hR⟩ := fin_gr1 hG (fun x => .int _ _)
  refine ⟨R, ?_, hR⟩
  rw [show ((0 : Nat) : Int) = 0 from rfl] at hc
  clear hG hR
  generalize allR bs 8 = a at *
  rw [Yg (X := X) _ b79 _ rfl rfl]; unfold b79
  (repeat (first | rw [Zj] | rw [Zc (by simp [go_sem]; exact ⟨rfl, rfl⟩)] | rw [Zx (by simp [lk, Za, Od.v]; exact rfl)] | rw [Zn] | rw [Zm] | rw [Zo] | rw [ZA] | rw [Zr] | rw [Zw] | rw [Zq] | rw [Zp] | rw [Zk] | rw [Zg] | rw [Zh] | rw [Zd (by decide)] | rw [Zi] | rw [Ze] | rw [Zf] | rw [Zb (by decide)] | rw [ZB] | rw [Zt (by simp [go_sem]; exact ⟨rfl, rfl⟩)] | rw [Zy (by simp [lk, Za, Od.v]; exact rfl)] | rw [Zz]))
  (try simp only [Za, List.map_cons, List.map_nil, lk, reduceIte, Nat.reduceEqDiff, Nat.zero_ne_one, Nat.one_ne_zero])
  rw [hc]
  (repeat (first | rw [Zj] | rw [Zc (by simp [go_sem]; exact ⟨rfl, rfl⟩)] | rw [Zx (by simp [lk, Za, Od.v]; exact rfl)] | rw [Zn] | rw [Zm] | rw [Zo] | rw [ZA] | rw [Zr] | rw [Zw] | rw [Zq] | rw [Zp] | rw [Zk] | rw [Zg] | rw [Zh] | rw [Zd (by decide)] | rw [Zi] | rw [Ze] | rw [Zf] | rw [Zb (by decide)] | rw [ZB] | rw [Zt (by simp [go_sem]; exact ⟨rfl, rfl⟩)] | rw [Zy (by simp [lk, Za, Od.v]; exact rfl)] | rw [Zz]))
  simp only [Zs, Yc, lk, Za, List.map_cons, List.map_nil, reduceIte, Option.map_some, hf]
theorem allR_bit {bs : List Nat} {k : Nat} (hk : k < bs.length * 8) : decide ((allR bs 8).getD k 0 = 1) = bitB bs k := by
  rw [allR_get (by omega) bs k hk]
  exact bit_c bs k
/-- A number out of bits that were spread. -/
theorem valR_numB {bs : List Nat} {w i : Nat} (h : i * w + w ≤ 8 * bs.length) : valR (((allR bs 8).drop (i * w)).take w) = numB bs w i w := by
  apply Nat.eq_of_testBit_eq
  intro j
  rw [valR_bit _ (fun b hb => allR_le b (List.mem_of_mem_drop (List.mem_of_mem_take hb))), numB_bit]
  by_cases c : j < w
  · have e : (((allR bs 8).drop (i * w)).take w).getD j 0 = (allR bs 8).getD (i * w + j) 0 := by
      rw [List.getD_eq_getElem?_getD, List.getD_eq_getElem?_getD, List.getElem?_take, if_pos c, List.getElem?_drop]
    rw [e, allR_bit (by omega)]
    simp [c]
  · have e : (((allR bs 8).drop (i * w)).take w).getD j 0 = 0 := by
      rw [List.getD_eq_getElem?_getD, List.getElem?_take, if_neg c]; rfl
    rw [e]
    simp [c]
theorem byte_tail {x r : Nat} (hx : x < 256) (hr : r ≤ 8) : x / 2 ^ r = 0 ↔ ∀ j, r ≤ j → j < 8 → x / 2 ^ j % 2 = 0 := by
  constructor
  · intro h j h1 _
    have h2 : x < 2 ^ r := by
      rcases Nat.div_eq_zero_iff.1 h with h3 | h3
      · have := Nat.two_pow_pos r; omega
      · exact h3
    rw [Nat.div_eq_of_lt (Nat.lt_of_lt_of_le h2 (Nat.pow_le_pow_right (by omega) h1))]
  · intro h
    apply Nat.eq_of_testBit_eq
    intro j
    rw [Nat.testBit_div_two_pow, Nat.zero_testBit]
    by_cases c : j + r < 8
    · have := h (j + r) (by omega) c
      have h2 := bit01 x (j + r)
      rw [this] at h2
      simpa using h2.symm
    · exact Nat.testBit_lt_two_pow (Nat.lt_of_lt_of_le (show x < 2 ^ 8 from hx) (Nat.pow_le_pow_right (by omega) (by omega)))
theorem pad_tail {bs : List Nat} {w n : Nat} (bb : BB bs) (hl : bs.length = (n * w + 7) / 8) : padOk bs w n ↔ ∀ k, n * w ≤ k → k < 8 * bs.length → (allR bs 8).getD k 0 = 0 := by
  unfold padOk
  generalize n * w = P at *
  have hget : ∀ k, k < 8 * bs.length → (allR bs 8).getD k 0 = bs.getD (k / 8) 0 / 2 ^ (k % 8) % 2 := fun k hk => allR_get (by omega) bs k (by omega)
  constructor
  · rintro ⟨_, h⟩ k h1 h2
    rw [hget k h2]
    have hr : 0 < P % 8 := by omega
    have hq : k / 8 = bs.length - 1 := by omega
    rw [hq]
    exact (byte_tail (bb.getD _) (by omega)).1 (h hr) (k % 8) (by omega) (by omega)
  · intro h
    refine ⟨hl, fun hr => (byte_tail (bb.getD _) (by omega)).2 fun j h1 h2 => ?_⟩
    have := h (8 * (bs.length - 1) + j) (by omega) (by omega)
    rw [hget _ (by omega), show (8 * (bs.length - 1) + j) / 8 = bs.length - 1 by omega, show (8 * (bs.length - 1) + j) % 8 = j by omega] at this
    exact this
theorem idsN_succ (bs : List Nat) (w i : Nat) : idsN bs w (i + 1) = idsN bs w i ++ [numB bs w i w] := by simp [idsN, List.range_succ]
theorem loop43 {H Ha : ZQ} {A : DV} {bs : List Nat} {n w : Nat} (hA : Grow 3 iD H Ha A (allR bs 8)) (hw : w ≤ 61) (hn : n ≤ 4096) (hl : n * w ≤ 8 * bs.length) (hb : bs.length ≤ 10000) :
    ∀ (k i : Nat) (o : DV) (h : ZQ), n - i ≤ k → i ≤ n → Grow 3 iD Ha h o (idsN bs w i) → ∃ y o' h' ex, C X (.loop lp43_0) [(1, .int .i64 n), (2, .int .i64 w), (8, A), (9, o), (10, .int .i64 i)] h = some (.exit 0, (1, .int .i64 n) :: (2, .int .i64 w) :: (8, A) :: (9, o') :: (10, y) :: ex, h') ∧ Grow 3 iD Ha h' o' (idsN bs w n) := by
  intro k
  induction k with
  | zero =>
    intro i o h hk hi hG
    obtain rfl : i = n := by omega
    refine ⟨.int .i64 i, o, h, [(43, .bool false)], ?_, hG⟩
    rw [Yl]
    unfold lp43_0
    (repeat (first | rw [Zj] | rw [Zc (by simp [go_sem]; exact ⟨rfl, rfl⟩)] | rw [Zx (by simp [lk, Za, Od.v]; exact rfl)] | rw [Zn] | rw [Zm] | rw [Zo] | rw [ZA] | rw [Zr] | rw [Zw] | rw [Zq] | rw [Zp] | rw [Zk] | rw [Zg] | rw [Zh] | rw [Zd (by decide)] | rw [Zi] | rw [Ze] | rw [Zf] | rw [Zb (by decide)] | rw [ZB] | rw [Zt (by simp [go_sem]; exact ⟨rfl, rfl⟩)] | rw [Zy (by simp [lk, Za, Od.v]; exact rfl)] | rw [Zz]))
    rw [YB]
    simp [Za, lk]
  | succ k ih =>
    intro i o h hk hi hG
    by_cases c : i < n
    · obtain ⟨I, hI⟩ : ∃ I, I = i + 1 := ⟨_, rfl⟩
      have z1 : IntKind.i64.wrap ((i : Int) + 1) = (I : Int) := (by rw [wrap64 _ (by omega) (by omega)]; omega)
      have hIw : I * w ≤ n * w := Nat.mul_le_mul_right w (by omega)
      have hIq : I * w = i * w + w := by rw [hI, Nat.succ_mul]
      have hnum := valR_numB (bs := bs) (w := w) (i := i) (by omega)
      obtain ⟨q, hq⟩ : ∃ q, q = i * w := ⟨_, rfl⟩
      obtain ⟨q2, hq2⟩ : ∃ q2, q2 = I * w := ⟨_, rfl⟩
      have z2 : IntKind.i64.wrap ((i : Int) * (w : Int)) = (q : Int) := by
        rw [← Int.natCast_mul, ← hq, wrap64 _ (by omega) (by omega)]
      have z3 : IntKind.i64.wrap ((I : Int) * (w : Int)) = (q2 : Int) := by
        rw [← Int.natCast_mul, ← hq2, wrap64 _ (by omega) (by omega)]
      rw [← hq] at hnum hIq
      rw [← hq2] at hIq hIw
      have hal := allR_len 8 bs
      have hK := hA.keep hG.1
      have hv := hK.vw0
      have hle : ∀ b ∈ ((allR bs 8).drop q).take w, b ≤ 1 := fun b hb => allR_le b (List.mem_of_mem_drop (List.mem_of_mem_take hb))
      have hsc := idsN_succ bs w i
      rw [← hI] at hsc
      obtain ⟨o2, h2, ha, hG2⟩ := hG.app 8 [numB bs w i w] (by rw [idsN_len]; simp; omega)
      rw [← hsc] at hG2
      have hIH := ih I o2 h2 (by omega) (by omega) hG2
      have hw0 := hG.vw0
      have y1 : ∀ (a : Int) h, eltL [.int .i64 a] h = some ([.int .i64 a], h) := fun _ _ => rfl
      have y2 : ∀ a, Wc 1 (.int .i64 a) := fun a => by simp [Wc, DV.cells, DV.one]
      have y3 : ∀ a, Nr (.int .i64 a) := fun a => .int _ _
      have y4 : ∀ (a : Int) h, srcOf h 1 (.list 1 [.int .i64 a] true) = some [.int .i64 a] := fun _ _ => rfl
      have hs : C X lp43_0 [(1, .int .i64 n), (2, .int .i64 w), (8, A), (9, o), (10, .int .i64 i)] h = some (.norm, [(1, .int .i64 n), (2, .int .i64 w), (8, A), (9, o2), (10, .int .i64 I)], h2) := by
        rcases hK.2 with ⟨rfl, hnil⟩ | ⟨g, r, rfl, _, h3⟩
        · rw [hnil] at hal hnum
          simp only [List.length_nil] at hal
          obtain rfl : q = 0 := by omega
          obtain rfl : q2 = 0 := by omega
          have e := run80 (h := h) (L := .nils) (l := []) rfl (by simp) (by simp)
          rw [List.drop_nil, List.take_nil] at hnum
          rw [hnum] at e
          clear ih hIH hA hK hG hG2 hsc hle hnum
          generalize numB bs w i w = v at *
          generalize idsN bs w i = cur at *
          have ha : appx h 3 1 8 o (cur.map iD) [.int .i64 v] = some (o2, h2) := ha
          unfold lp43_0
          (repeat (first | rw [Zj] | rw [Zc (by simp [go_sem, c, z1, z2, z3, hv, hw0, e, ha, y1, y2, y3, y4, intAt, cutx, slcx]; exact ⟨rfl, rfl⟩)] | rw [Zx (by simp [lk, Za, Od.v, c, z1, z2, z3, hv, hw0, e, ha, y1, y2, y3, y4, intAt, cutx, slcx]; exact rfl)] | rw [Zn] | rw [Zm] | rw [Zo] | rw [ZA] | rw [Zr] | rw [Zw] | rw [Zq] | rw [Zp] | rw [Zk] | rw [Zg] | rw [Zh] | rw [Zd (by decide)] | rw [Zi] | rw [Ze] | rw [Zf] | rw [Zb (by decide)] | rw [ZB] | rw [Zt (by simp [go_sem, c, z1, z2, z3, hv, hw0, e, ha, y1, y2, y3, y4, intAt, cutx, slcx]; exact ⟨rfl, rfl⟩)] | rw [Zy (by simp [lk, Za, Od.v, c, z1, z2, z3, hv, hw0, e, ha, y1, y2, y3, y4, intAt, cutx, slcx]; exact rfl)] | rw [Zz]))
          simp [Za, lk]
        · have c1 : q ≤ q2 := by omega
          have c2 : q2 ≤ (allR bs 8).length := by omega
          have c4 : q2 - q = w := by omega
          have hvv : vw h 1 (.row r g q w false) = some ((((allR bs 8).drop q).take w).map iD) := by
            have : q + w ≤ (allR bs 8).length := by omega
            simp [vw, h3, this, List.map_drop, List.map_take]
          have e := run80 hvv hle (by rw [List.length_take]; omega)
          rw [hnum] at e
          clear ih hIH hA hK hG hG2 hsc hle hnum hvv
          generalize numB bs w i w = v at *
          generalize idsN bs w i = cur at *
          generalize allR bs 8 = a at *
          have ha : appx h 3 1 8 o (cur.map iD) [.int .i64 v] = some (o2, h2) := ha
          unfold lp43_0
          (repeat (first | rw [Zj] | rw [Zc (by simp [go_sem, c, z1, z2, z3, hv, hw0, c1, c2, c4, e, ha, y1, y2, y3, y4, intAt, cutx, slcx]; exact ⟨rfl, rfl⟩)] | rw [Zx (by simp [lk, Za, Od.v, c, z1, z2, z3, hv, hw0, c1, c2, c4, e, ha, y1, y2, y3, y4, intAt, cutx, slcx]; exact rfl)] | rw [Zn] | rw [Zm] | rw [Zo] | rw [ZA] | rw [Zr] | rw [Zw] | rw [Zq] | rw [Zp] | rw [Zk] | rw [Zg] | rw [Zh] | rw [Zd (by decide)] | rw [Zi] | rw [Ze] | rw [Zf] | rw [Zb (by decide)] | rw [ZB] | rw [Zt (by simp [go_sem, c, z1, z2, z3, hv, hw0, c1, c2, c4, e, ha, y1, y2, y3, y4, intAt, cutx, slcx]; exact ⟨rfl, rfl⟩)] | rw [Zy (by simp [lk, Za, Od.v, c, z1, z2, z3, hv, hw0, c1, c2, c4, e, ha, y1, y2, y3, y4, intAt, cutx, slcx]; exact rfl)] | rw [Zz]))
          simp [Za, lk]
      rw [Yl, hs, Yy]
      exact hIH
    · exact ih i o h (by omega) hi hG
theorem loop43b {h : ZQ} {A O : DV} {a : List Nat} (hA : vw h 1 A = some (a.map iD)) (hb : a.length ≤ 1000000) :
    ∀ (m k : Nat), a.length - k ≤ m → k ≤ a.length → (∃ ex, C X (.loop lp43_1) [(8, A), (9, O), (11, .int .i64 k)] h = some (.exit 2, (8, A) :: (9, O) :: ex, h) ∧ ∀ j, k ≤ j → j < a.length → a.getD j 0 = 0) ∨ (C X (.loop lp43_1) [(8, A), (9, O), (11, .int .i64 k)] h = some (.ret, [(6, .nils), (7, .int .i64 7)], h) ∧ ¬ ∀ j, k ≤ j → j < a.length → a.getD j 0 = 0) := by
  intro m
  induction m with
  | zero =>
    intro k hm hk
    obtain rfl : k = a.length := by omega
    refine .inl ⟨[(11, .int .i64 a.length), (65, .bool false)], ?_, fun j h1 h2 => by omega⟩
    rw [Yl]
    unfold lp43_1
    (repeat (first | rw [Zj] | rw [Zc (by simp [go_sem, hA]; exact ⟨rfl, rfl⟩)] | rw [Zx (by simp [lk, Za, Od.v, hA]; exact rfl)] | rw [Zn] | rw [Zm] | rw [Zo] | rw [ZA] | rw [Zr] | rw [Zw] | rw [Zq] | rw [Zp] | rw [Zk] | rw [Zg] | rw [Zh] | rw [Zd (by decide)] | rw [Zi] | rw [Ze] | rw [Zf] | rw [Zb (by decide)] | rw [ZB] | rw [Zt (by simp [go_sem, hA]; exact ⟨rfl, rfl⟩)] | rw [Zy (by simp [lk, Za, Od.v, hA]; exact rfl)] | rw [Zz]))
    rw [YB]
    simp [Za, lk]
  | succ m ih =>
    intro k hm hk
    by_cases c : k < a.length
    · obtain ⟨K, hK⟩ : ∃ K, K = k + 1 := ⟨_, rfl⟩
      have z1 : IntKind.i64.wrap ((k : Int) + 1) = (K : Int) := (by rw [wrap64 _ (by omega) (by omega)]; omega)
      obtain ⟨x, hx⟩ : ∃ x, x = a[k] := ⟨_, rfl⟩
      have hxk : a[k]? = some x := by rw [hx]; exact List.getElem?_eq_getElem c
      have hx' := hx.symm
      have hgd : a.getD k 0 = x := by rw [List.getD_eq_getElem?_getD, hxk]; rfl
      by_cases h0 : x = 0
      · have q0 : ((x : Int) != 0) = false := by simp [h0]
        have hs : C X lp43_1 [(8, A), (9, O), (11, .int .i64 k)] h = some (.norm, [(8, A), (9, O), (11, .int .i64 K)], h) := by
          clear ih
          unfold lp43_1
          (repeat (first | rw [Zj] | rw [Zc (by simp [go_sem, c, z1, hA, hxk, hx', h0, q0, ZZ]; exact ⟨rfl, rfl⟩)] | rw [Zx (by simp [lk, Za, Od.v, c, z1, hA, hxk, hx', h0, q0, ZZ]; exact rfl)] | rw [Zn] | rw [Zm] | rw [Zo] | rw [ZA] | rw [Zr] | rw [Zw] | rw [Zq] | rw [Zp] | rw [Zk] | rw [Zg] | rw [Zh] | rw [Zd (by decide)] | rw [Zi] | rw [Ze] | rw [Zf] | rw [Zb (by decide)] | rw [ZB] | rw [Zt (by simp [go_sem, c, z1, hA, hxk, hx', h0, q0, ZZ]; exact ⟨rfl, rfl⟩)] | rw [Zy (by simp [lk, Za, Od.v, c, z1, hA, hxk, hx', h0, q0, ZZ]; exact rfl)] | rw [Zz]))
          simp [Za, lk]
        rw [Yl, hs, Yy]
        rcases ih K (by omega) (by omega) with ⟨ex, h1, h2⟩ | ⟨h1, h2⟩
        · refine .inl ⟨ex, h1, fun j h3 h4 => ?_⟩
          by_cases e : j = k
          · rw [e, hgd, h0]
          · exact h2 j (by omega) h4
        · exact .inr ⟨h1, fun h3 => h2 fun j h4 h5 => h3 j (by omega) h5⟩
      · right
        have q0 : ((x : Int) != 0) = true := by simpa using h0
        have hs : C X lp43_1 [(8, A), (9, O), (11, .int .i64 k)] h = some (.ret, [(6, .nils), (7, .int .i64 7)], h) := by
          clear ih
          unfold lp43_1
          (repeat (first | rw [Zj] | rw [Zc (by simp [go_sem, c, z1, hA, hxk, hx', h0, q0, ZZ]; exact ⟨rfl, rfl⟩)] | rw [Zx (by simp [lk, Za, Od.v, c, z1, hA, hxk, hx', h0, q0, ZZ]; exact rfl)] | rw [Zn] | rw [Zm] | rw [Zo] | rw [ZA] | rw [Zr] | rw [Zw] | rw [Zq] | rw [Zp] | rw [Zk] | rw [Zg] | rw [Zh] | rw [Zd (by decide)] | rw [Zi] | rw [Ze] | rw [Zf] | rw [Zb (by decide)] | rw [ZB] | rw [Zt (by simp [go_sem, c, z1, hA, hxk, hx', h0, q0, ZZ]; exact ⟨rfl, rfl⟩)] | rw [Zy (by simp [lk, Za, Od.v, c, z1, hA, hxk, hx', h0, q0, ZZ]; exact rfl)] | rw [Zz]))
          simp [Za, lk]
        rw [Yl, hs, lp_ret]
        exact ⟨rfl, fun h3 => h0 (by rw [← hgd]; exact h3 k (Nat.le_refl _) c)⟩
    · exact ih k (by omega) hk
set_option maxHeartbeats 2000000 in
theorem run43 {H : ZQ} {L : DV} {bs : List Nat} {w n : Nat} (hL : ∀ g, vw g 1 L = some (bs.map bD)) (bb : BB bs) (hb : bs.length ≤ 10000) (hw : w ≤ 61) (hn : n ≤ 4096) :
    ∃ R e, E X 43 [L, .int .i64 n, .int .i64 w] H = some (.tup [R, .int .i64 e], H) ∧ ((padOk bs w n ∧ e = 0 ∧ ((R = .nils ∧ idsN bs w n = []) ∨ R = .list 1 ((idsN bs w n).map iD) false)) ∨ (¬ padOk bs w n ∧ (e != 0) = true)) := by
  have hmul : n * w ≤ 4096 * 61 := Nat.mul_le_mul hn hw
  obtain ⟨P, hP⟩ : ∃ P, P = n * w := ⟨_, rfl⟩
  have z1 : IntKind.i64.wrap ((n : Int) * (w : Int)) = (P : Int) := by
    rw [← Int.natCast_mul, ← hP, wrap64 _ (by omega) (by omega)]
  obtain ⟨B8, hB8⟩ : ∃ B8, B8 = 8 * bs.length := ⟨_, rfl⟩
  have z2 : IntKind.i64.wrap (8 * (bs.length : Int)) = (B8 : Int) := by
    rw [wrap64 _ (by omega) (by omega)]; omega
  obtain ⟨P7, hP7⟩ : ∃ P7, P7 = P + 7 := ⟨_, rfl⟩
  have z3 : IntKind.i64.wrap ((P : Int) + 7) = (P7 : Int) := (by rw [wrap64 _ (by omega) (by omega)]; omega)
  obtain ⟨m, hm⟩ : ∃ m, m = P7 / 8 := ⟨_, rfl⟩
  have z4 : IntKind.i64.wrap ((P7 : Int) / 8) = (m : Int) := (by rw [wrap64 _ (by omega) (by omega)]; omega)
  have z4' : ((P7 : Int)).tdiv 8 = (m : Int) := by rw [Int.tdiv_eq_ediv_of_nonneg (by omega)]; omega
  have z4'' : IntKind.i64.wrap (m : Int) = (m : Int) := wrap64 _ (by omega) (by omega)
  have d1 : ¬ (4096 : Int) < (n : Int) := by omega
  have d2 : ¬ 4096 < n := by omega
  have d3 : ¬ (n : Int) < 0 := by omega
  have d4 : ¬ (62 : Int) < (w : Int) := by omega
  have d5 : ¬ 62 < w := by omega
  have d6 : ¬ (w : Int) < 0 := by omega
  by_cases c1 : B8 < P
  · refine ⟨.nils, 6, ?_, .inr ⟨?_, rfl⟩⟩
    · have c1' : (B8 : Int) < (P : Int) := by omega
      rw [Yg (X := X) _ b43 _ rfl rfl]; unfold b43; (repeat (first | rw [Zj] | rw [Zc (by simp [go_sem, hL, z1, z2, d1, d2, d3, d4, d5, d6, c1, c1']; exact ⟨rfl, rfl⟩)] | rw [Zx (by simp [lk, Za, Od.v, hL, z1, z2, d1, d2, d3, d4, d5, d6, c1, c1']; exact rfl)] | rw [Zn] | rw [Zm] | rw [Zo] | rw [ZA] | rw [Zr] | rw [Zw] | rw [Zq] | rw [Zp] | rw [Zk] | rw [Zg] | rw [Zh] | rw [Zd (by decide)] | rw [Zi] | rw [Ze] | rw [Zf] | rw [Zb (by decide)] | rw [ZB] | rw [Zt (by simp [go_sem, hL, z1, z2, d1, d2, d3, d4, d5, d6, c1, c1']; exact ⟨rfl, rfl⟩)] | rw [Zy (by simp [lk, Za, Od.v, hL, z1, z2, d1, d2, d3, d4, d5, d6, c1, c1']; exact rfl)] | rw [Zz])); simp [Zs, ZC, Yc, go_sem, fin, YD, YC, YG, YF, YI, hL, z1, z2, d1, d2, d3, d4, d5, d6, c1, c1']
    · unfold padOk
      rw [← hP]
      rintro ⟨h, _⟩; omega
  have c1' : ¬ (B8 : Int) < (P : Int) := by omega
  by_cases c2 : m < bs.length
  · refine ⟨.nils, 7, ?_, .inr ⟨?_, rfl⟩⟩
    · have c2' : (m : Int) < (bs.length : Int) := by omega
      rw [Yg (X := X) _ b43 _ rfl rfl]; unfold b43; (repeat (first | rw [Zj] | rw [Zc (by simp [go_sem, hL, z1, z2, z3, z4, z4', z4'', d1, d2, d3, d4, d5, d6, c1, c1', c2, c2']; exact ⟨rfl, rfl⟩)] | rw [Zx (by simp [lk, Za, Od.v, hL, z1, z2, z3, z4, z4', z4'', d1, d2, d3, d4, d5, d6, c1, c1', c2, c2']; exact rfl)] | rw [Zn] | rw [Zm] | rw [Zo] | rw [ZA] | rw [Zr] | rw [Zw] | rw [Zq] | rw [Zp] | rw [Zk] | rw [Zg] | rw [Zh] | rw [Zd (by decide)] | rw [Zi] | rw [Ze] | rw [Zf] | rw [Zb (by decide)] | rw [ZB] | rw [Zt (by simp [go_sem, hL, z1, z2, z3, z4, z4', z4'', d1, d2, d3, d4, d5, d6, c1, c1', c2, c2']; exact ⟨rfl, rfl⟩)] | rw [Zy (by simp [lk, Za, Od.v, hL, z1, z2, z3, z4, z4', z4'', d1, d2, d3, d4, d5, d6, c1, c1', c2, c2']; exact rfl)] | rw [Zz])); simp [Zs, ZC, Yc, go_sem, fin, YD, YC, YG, YF, YI, hL, z1, z2, z3, z4, z4', z4'', d1, d2, d3, d4, d5, d6, c1, c1', c2, c2']
    · unfold padOk
      rw [← hP]
      rintro ⟨h, _⟩; omega
  have c2' : ¬ (m : Int) < (bs.length : Int) := by omega
  have hlen : bs.length = (n * w + 7) / 8 := by rw [← hP]; omega
  obtain ⟨d, e79, hd⟩ := run79 (H := H) hL bb hb
  have hal := allR_len 8 bs
  have fin1 : ∀ {Ha h2 : ZQ} {o : DV}, Ha.take H.length = H → Grow 3 iD Ha h2 o (idsN bs w n) → ∃ R, fin H h2 [o, .int .i64 0] = (.tup [R, .int .i64 0], H) ∧ ((R = .nils ∧ idsN bs w n = []) ∨ R = .list 1 ((idsN bs w n).map iD) false) := by
    intro Ha h2 o ht hG
    have hle := take_le ht
    refine fin_grw (T := 3) (f := iD) ⟨?_, ?_⟩ (fun x => .int _ _) 0
    · have h5 : h2.take H.length = (h2.take Ha.length).take H.length := by rw [List.take_take, Nat.min_eq_left hle]
      rw [h5, hG.1, ht]
    · rcases hG.2 with h | ⟨g, oo, h1, h2, h3⟩
      · exact .inl h
      · exact .inr ⟨g, oo, h1, by omega, h3⟩
  have fin2 : ∀ {h2 : ZQ}, h2.take H.length = H → fin H h2 [.nils, .int .i64 7] = (.tup [.nils, .int .i64 7], H) := by
    intro h2 ht
    simp only [fin]
    rw [if_pos ht]
    rfl
  have main : ∀ (A : DV) (Ha : ZQ), Grow 3 iD H Ha A (allR bs 8) → (d = .nils ∧ A = .nils ∧ Ha = H ∨ d = .fresh 3 1 ((allR bs 8).map iD) ∧ A = .row H.length 0 0 (allR bs 8).length false ∧ Ha = H ++ [.row 3 1 0 ((allR bs 8).map iD)]) → ∃ R e, E X 43 [L, .int .i64 n, .int .i64 w] H = some (.tup [R, .int .i64 e], H) ∧ ((padOk bs w n ∧ e = 0 ∧ ((R = .nils ∧ idsN bs w n = []) ∨ R = .list 1 ((idsN bs w n).map iD) false)) ∨ (¬ padOk bs w n ∧ (e != 0) = true)) := by
    intro A Ha hA hsh
    obtain ⟨y, o2, h2, ex, hc, hG⟩ := loop43 hA hw hn (by omega) hb n 0 .nils Ha (by omega) (by omega) Grow.zero
    rw [show ((0 : Nat) : Int) = 0 from rfl] at hc
    have hv2 := (hA.keep hG.1).vw0
    have hPl : P ≤ (allR bs 8).length := by omega
    have ht2 : h2.take H.length = H := by
      have hle := take_le hA.1
      have h5 : h2.take H.length = (h2.take Ha.length).take H.length := by rw [List.take_take, Nat.min_eq_left hle]
      rw [h5, hG.1, hA.1]
    have hpt := pad_tail (w := w) (n := n) bb hlen
    rw [← hP] at hpt
    rcases loop43b (O := o2) hv2 (by omega) ((allR bs 8).length - P) P (by omega) hPl with ⟨ex2, hc2, hz⟩ | ⟨hc2, hz⟩
    · obtain ⟨R, hfin, hR⟩ := fin1 hA.1 hG
      refine ⟨R, 0, ?_, .inl ⟨hpt.2 (fun k h1 h2 => hz k h1 (by omega)), rfl, hR⟩⟩
      clear hG hA hpt hz fin1 fin2 hR hd hPl hal
      generalize allR bs 8 = a at *
      rcases hsh with ⟨rfl, rfl, rfl⟩ | ⟨rfl, rfl, rfl⟩
      · rw [Yg (X := X) _ b43 _ rfl rfl]; unfold b43
        (repeat (first | rw [Zj] | rw [Zc (by simp [go_sem, hL, e79, z1, z2, z3, z4, z4', z4'', d1, d2, d3, d4, d5, d6, c1, c1', c2, c2']; exact ⟨rfl, rfl⟩)] | rw [Zx (by simp [lk, Za, Od.v, hL, e79, z1, z2, z3, z4, z4', z4'', d1, d2, d3, d4, d5, d6, c1, c1', c2, c2']; exact rfl)] | rw [Zn] | rw [Zm] | rw [Zo] | rw [ZA] | rw [Zr] | rw [Zw] | rw [Zq] | rw [Zp] | rw [Zk] | rw [Zg] | rw [Zh] | rw [Zd (by decide)] | rw [Zi] | rw [Ze] | rw [Zf] | rw [Zb (by decide)] | rw [ZB] | rw [Zt (by simp [go_sem, hL, e79, z1, z2, z3, z4, z4', z4'', d1, d2, d3, d4, d5, d6, c1, c1', c2, c2']; exact ⟨rfl, rfl⟩)] | rw [Zy (by simp [lk, Za, Od.v, hL, e79, z1, z2, z3, z4, z4', z4'', d1, d2, d3, d4, d5, d6, c1, c1', c2, c2']; exact rfl)] | rw [Zz]))
        (try simp only [Za, List.map_cons, List.map_nil, lk, reduceIte, Nat.reduceEqDiff, Nat.zero_ne_one, Nat.one_ne_zero])
        rw [hc]
        (repeat (first | rw [Zj] | rw [Zc (by simp [go_sem, z1]; exact ⟨rfl, rfl⟩)] | rw [Zx (by simp [lk, Za, Od.v, z1]; exact rfl)] | rw [Zn] | rw [Zm] | rw [Zo] | rw [ZA] | rw [Zr] | rw [Zw] | rw [Zq] | rw [Zp] | rw [Zk] | rw [Zg] | rw [Zh] | rw [Zd (by decide)] | rw [Zi] | rw [Ze] | rw [Zf] | rw [Zb (by decide)] | rw [ZB] | rw [Zt (by simp [go_sem, z1]; exact ⟨rfl, rfl⟩)] | rw [Zy (by simp [lk, Za, Od.v, z1]; exact rfl)] | rw [Zz]))
        (try simp only [Za, List.map_cons, List.map_nil, lk, reduceIte, Nat.reduceEqDiff, Nat.zero_ne_one, Nat.one_ne_zero])
        rw [hc2]
        (repeat (first | rw [Zj] | rw [Zc (by simp [go_sem]; exact ⟨rfl, rfl⟩)] | rw [Zx (by simp [lk, Za, Od.v]; exact rfl)] | rw [Zn] | rw [Zm] | rw [Zo] | rw [ZA] | rw [Zr] | rw [Zw] | rw [Zq] | rw [Zp] | rw [Zk] | rw [Zg] | rw [Zh] | rw [Zd (by decide)] | rw [Zi] | rw [Ze] | rw [Zf] | rw [Zb (by decide)] | rw [ZB] | rw [Zt (by simp [go_sem]; exact ⟨rfl, rfl⟩)] | rw [Zy (by simp [lk, Za, Od.v]; exact rfl)] | rw [Zz]))
        simp only [Zs, Yc, lk, Za, List.map_cons, List.map_nil, reduceIte, Option.map_some, Nat.reduceEqDiff, hfin]
      · have hmL : (a.map iD).length = a.length := by simp
        rw [Yg (X := X) _ b43 _ rfl rfl]; unfold b43
        (repeat (first | rw [Zj] | rw [Zc (by simp [go_sem, hL, e79, z1, z2, z3, z4, z4', z4'', d1, d2, d3, d4, d5, d6, c1, c1', c2, c2', hmL]; exact ⟨rfl, rfl⟩)] | rw [Zx (by simp [lk, Za, Od.v, hL, e79, z1, z2, z3, z4, z4', z4'', d1, d2, d3, d4, d5, d6, c1, c1', c2, c2', hmL]; exact rfl)] | rw [Zn] | rw [Zm] | rw [Zo] | rw [ZA] | rw [Zr] | rw [Zw] | rw [Zq] | rw [Zp] | rw [Zk] | rw [Zg] | rw [Zh] | rw [Zd (by decide)] | rw [Zi] | rw [Ze] | rw [Zf] | rw [Zb (by decide)] | rw [ZB] | rw [Zt (by simp [go_sem, hL, e79, z1, z2, z3, z4, z4', z4'', d1, d2, d3, d4, d5, d6, c1, c1', c2, c2', hmL]; exact ⟨rfl, rfl⟩)] | rw [Zy (by simp [lk, Za, Od.v, hL, e79, z1, z2, z3, z4, z4', z4'', d1, d2, d3, d4, d5, d6, c1, c1', c2, c2', hmL]; exact rfl)] | rw [Zz]))
        (try simp only [Za, List.map_cons, List.map_nil, lk, reduceIte, Nat.reduceEqDiff, Nat.zero_ne_one, Nat.one_ne_zero])
        rw [hc]
        (repeat (first | rw [Zj] | rw [Zc (by simp [go_sem, z1]; exact ⟨rfl, rfl⟩)] | rw [Zx (by simp [lk, Za, Od.v, z1]; exact rfl)] | rw [Zn] | rw [Zm] | rw [Zo] | rw [ZA] | rw [Zr] | rw [Zw] | rw [Zq] | rw [Zp] | rw [Zk] | rw [Zg] | rw [Zh] | rw [Zd (by decide)] | rw [Zi] | rw [Ze] | rw [Zf] | rw [Zb (by decide)] | rw [ZB] | rw [Zt (by simp [go_sem, z1]; exact ⟨rfl, rfl⟩)] | rw [Zy (by simp [lk, Za, Od.v, z1]; exact rfl)] | rw [Zz]))
        (try simp only [Za, List.map_cons, List.map_nil, lk, reduceIte, Nat.reduceEqDiff, Nat.zero_ne_one, Nat.one_ne_zero])
        rw [hc2]
        (repeat (first | rw [Zj] | rw [Zc (by simp [go_sem]; exact ⟨rfl, rfl⟩)] | rw [Zx (by simp [lk, Za, Od.v]; exact rfl)] | rw [Zn] | rw [Zm] | rw [Zo] | rw [ZA] | rw [Zr] | rw [Zw] | rw [Zq] | rw [Zp] | rw [Zk] | rw [Zg] | rw [Zh] | rw [Zd (by decide)] | rw [Zi] | rw [Ze] | rw [Zf] | rw [Zb (by decide)] | rw [ZB] | rw [Zt (by simp [go_sem]; exact ⟨rfl, rfl⟩)] | rw [Zy (by simp [lk, Za, Od.v]; exact rfl)] | rw [Zz]))
        simp only [Zs, Yc, lk, Za, List.map_cons, List.map_nil, reduceIte, Option.map_some, Nat.reduceEqDiff, hfin]
    · have hfin := fin2 ht2
      refine ⟨.nils, 7, ?_, .inr ⟨fun h => hz fun j h1 h2 => hpt.1 h j h1 (by omega), rfl⟩⟩
      clear hG hA hpt hz fin1 fin2 hd hPl hal
      generalize allR bs 8 = a at *
      rcases hsh with ⟨rfl, rfl, rfl⟩ | ⟨rfl, rfl, rfl⟩
      · rw [Yg (X := X) _ b43 _ rfl rfl]; unfold b43
        (repeat (first | rw [Zj] | rw [Zc (by simp [go_sem, hL, e79, z1, z2, z3, z4, z4', z4'', d1, d2, d3, d4, d5, d6, c1, c1', c2, c2']; exact ⟨rfl, rfl⟩)] | rw [Zx (by simp [lk, Za, Od.v, hL, e79, z1, z2, z3, z4, z4', z4'', d1, d2, d3, d4, d5, d6, c1, c1', c2, c2']; exact rfl)] | rw [Zn] | rw [Zm] | rw [Zo] | rw [ZA] | rw [Zr] | rw [Zw] | rw [Zq] | rw [Zp] | rw [Zk] | rw [Zg] | rw [Zh] | rw [Zd (by decide)] | rw [Zi] | rw [Ze] | rw [Zf] | rw [Zb (by decide)] | rw [ZB] | rw [Zt (by simp [go_sem, hL, e79, z1, z2, z3, z4, z4', z4'', d1, d2, d3, d4, d5, d6, c1, c1', c2, c2']; exact ⟨rfl, rfl⟩)] | rw [Zy (by simp [lk, Za, Od.v, hL, e79, z1, z2, z3, z4, z4', z4'', d1, d2, d3, d4, d5, d6, c1, c1', c2, c2']; exact rfl)] | rw [Zz]))
        (try simp only [Za, List.map_cons, List.map_nil, lk, reduceIte, Nat.reduceEqDiff, Nat.zero_ne_one, Nat.one_ne_zero])
        rw [hc]
        (repeat (first | rw [Zj] | rw [Zc (by simp [go_sem, z1]; exact ⟨rfl, rfl⟩)] | rw [Zx (by simp [lk, Za, Od.v, z1]; exact rfl)] | rw [Zn] | rw [Zm] | rw [Zo] | rw [ZA] | rw [Zr] | rw [Zw] | rw [Zq] | rw [Zp] | rw [Zk] | rw [Zg] | rw [Zh] | rw [Zd (by decide)] | rw [Zi] | rw [Ze] | rw [Zf] | rw [Zb (by decide)] | rw [ZB] | rw [Zt (by simp [go_sem, z1]; exact ⟨rfl, rfl⟩)] | rw [Zy (by simp [lk, Za, Od.v, z1]; exact rfl)] | rw [Zz]))
        (try simp only [Za, List.map_cons, List.map_nil, lk, reduceIte, Nat.reduceEqDiff, Nat.zero_ne_one, Nat.one_ne_zero])
        rw [hc2]
        (repeat (first | rw [Zj] | rw [Zc (by simp [go_sem]; exact ⟨rfl, rfl⟩)] | rw [Zx (by simp [lk, Za, Od.v]; exact rfl)] | rw [Zn] | rw [Zm] | rw [Zo] | rw [ZA] | rw [Zr] | rw [Zw] | rw [Zq] | rw [Zp] | rw [Zk] | rw [Zg] | rw [Zh] | rw [Zd (by decide)] | rw [Zi] | rw [Ze] | rw [Zf] | rw [Zb (by decide)] | rw [ZB] | rw [Zt (by simp [go_sem]; exact ⟨rfl, rfl⟩)] | rw [Zy (by simp [lk, Za, Od.v]; exact rfl)] | rw [Zz]))
        simp only [Zs, Yc, lk, Za, List.map_cons, List.map_nil, reduceIte, Option.map_some, Nat.reduceEqDiff, hfin]
      · have hmL : (a.map iD).length = a.length := by simp
        rw [Yg (X := X) _ b43 _ rfl rfl]; unfold b43
        (repeat (first | rw [Zj] | rw [Zc (by simp [go_sem, hL, e79, z1, z2, z3, z4, z4', z4'', d1, d2, d3, d4, d5, d6, c1, c1', c2, c2', hmL]; exact ⟨rfl, rfl⟩)] | rw [Zx (by simp [lk, Za, Od.v, hL, e79, z1, z2, z3, z4, z4', z4'', d1, d2, d3, d4, d5, d6, c1, c1', c2, c2', hmL]; exact rfl)] | rw [Zn] | rw [Zm] | rw [Zo] | rw [ZA] | rw [Zr] | rw [Zw] | rw [Zq] | rw [Zp] | rw [Zk] | rw [Zg] | rw [Zh] | rw [Zd (by decide)] | rw [Zi] | rw [Ze] | rw [Zf] | rw [Zb (by decide)] | rw [ZB] | rw [Zt (by simp [go_sem, hL, e79, z1, z2, z3, z4, z4', z4'', d1, d2, d3, d4, d5, d6, c1, c1', c2, c2', hmL]; exact ⟨rfl, rfl⟩)] | rw [Zy (by simp [lk, Za, Od.v, hL, e79, z1, z2, z3, z4, z4', z4'', d1, d2, d3, d4, d5, d6, c1, c1', c2, c2', hmL]; exact rfl)] | rw [Zz]))
        (try simp only [Za, List.map_cons, List.map_nil, lk, reduceIte, Nat.reduceEqDiff, Nat.zero_ne_one, Nat.one_ne_zero])
        rw [hc]
        (repeat (first | rw [Zj] | rw [Zc (by simp [go_sem, z1]; exact ⟨rfl, rfl⟩)] | rw [Zx (by simp [lk, Za, Od.v, z1]; exact rfl)] | rw [Zn] | rw [Zm] | rw [Zo] | rw [ZA] | rw [Zr] | rw [Zw] | rw [Zq] | rw [Zp] | rw [Zk] | rw [Zg] | rw [Zh] | rw [Zd (by decide)] | rw [Zi] | rw [Ze] | rw [Zf] | rw [Zb (by decide)] | rw [ZB] | rw [Zt (by simp [go_sem, z1]; exact ⟨rfl, rfl⟩)] | rw [Zy (by simp [lk, Za, Od.v, z1]; exact rfl)] | rw [Zz]))
        (try simp only [Za, List.map_cons, List.map_nil, lk, reduceIte, Nat.reduceEqDiff, Nat.zero_ne_one, Nat.one_ne_zero])
        rw [hc2]
        (repeat (first | rw [Zj] | rw [Zc (by simp [go_sem]; exact ⟨rfl, rfl⟩)] | rw [Zx (by simp [lk, Za, Od.v]; exact rfl)] | rw [Zn] | rw [Zm] | rw [Zo] | rw [ZA] | rw [Zr] | rw [Zw] | rw [Zq] | rw [Zp] | rw [Zk] | rw [Zg] | rw [Zh] | rw [Zd (by decide)] | rw [Zi] | rw [Ze] | rw [Zf] | rw [Zb (by decide)] | rw [ZB] | rw [Zt (by simp [go_sem]; exact ⟨rfl, rfl⟩)] | rw [Zy (by simp [lk, Za, Od.v]; exact rfl)] | rw [Zz]))
        simp only [Zs, Yc, lk, Za, List.map_cons, List.map_nil, reduceIte, Option.map_some, Nat.reduceEqDiff, hfin]
  rcases hd with ⟨rfl, hnil⟩ | rfl
  · exact main .nils H (by rw [hnil]; exact Grow.zero) (.inl ⟨rfl, rfl, rfl⟩)
  · exact main (.row H.length 0 0 (allR bs 8).length false) (H ++ [.row 3 1 0 ((allR bs 8).map iD)]) ⟨by simp, .inr ⟨0, H.length, rfl, Nat.le_refl _, by simp⟩⟩ (.inr ⟨rfl, rfl, rfl⟩)
end Go.Proofs.YtojhkbbnkhfnhaaDoor
namespace Go.Proofs.YtojhkbbnkhfnhaaDoor
set_option linter.unusedVariables false
set_option linter.unusedSimpArgs false
set_option maxRecDepth 10000
/-- A list that grows, behind H. -/
def Gro (T sz : Nat) (H h : ZQ) (d : DV) (xs : List DV) : Prop :=
  h.take H.length = H ∧ ((d = .nils ∧ xs = []) ∨ ∃ g o, d = .row o g 0 xs.length false ∧ H.length ≤ o ∧ h[o]? = some (.row T sz g xs))
theorem take_leG {H h : ZQ} (ht : h.take H.length = H) : H.length ≤ h.length := by
  have := congrArg List.length ht
  rw [List.length_take] at this; omega
section
variable {T sz : Nat} {H h : ZQ} {d : DV} {xs : List DV}
theorem Gro.zero : Gro T sz H H .nils [] := ⟨List.take_length, .inl ⟨rfl, rfl⟩⟩
theorem Gro.ext (hg : Gro T sz H h d xs) (G : ZQ) : Gro T sz H (h ++ G) d xs := by
  obtain ⟨ht, hr⟩ := hg
  refine ⟨?_, ?_⟩
  · rw [List.take_append_of_le_length (take_leG ht)]; exact ht
  · rcases hr with hr | ⟨g, o, h1, h2, h3⟩
    · exact .inl hr
    · exact .inr ⟨g, o, h1, h2, by rw [List.getElem?_append_left (List.getElem?_eq_some_iff.1 h3).1]; exact h3⟩
theorem Gro.vw (hg : Gro T sz H h d xs) : vw h sz d = some xs := by
  rcases hg.2 with ⟨rfl, rfl⟩ | ⟨g, o, rfl, h2, h3⟩
  · rfl
  · simp [Go.Proofs.YtojhkbbnkhfnhaaDoor.vw, h3, List.take_of_length_le]
theorem Gro.app (hg : Gro T sz H h d xs) (b : Nat) (ys : List DV) (hb : (xs.length + ys.length) * b ≤ 140737488355328) : ∃ d' h', appx h T sz b d xs ys = some (d', h') ∧ Gro T sz H h' d' (xs ++ ys) := by
  by_cases hy : ys = []
  · subst hy
    exact ⟨d, h, by simp [appx], by rw [List.append_nil]; exact hg⟩
  · obtain ⟨ht, hr⟩ := hg
    rcases hr with ⟨rfl, rfl⟩ | ⟨g, o, rfl, h2, h3⟩
    · refine ⟨.row h.length 0 0 ys.length false, h ++ [.row T sz 0 ys], ?_, ?_, .inr ⟨0, h.length, by simp, take_leG ht, by simp⟩⟩
      · simp only [appx, if_neg hy]
        rw [if_pos hb]
      · rw [List.take_append_of_le_length (take_leG ht)]; exact ht
    · have hlt := (List.getElem?_eq_some_iff.1 h3).1
      refine ⟨.row o (g + 1) 0 (xs.length + ys.length) false, h.set o (.row T sz (g + 1) (xs ++ ys)), ?_, ?_, .inr ⟨g + 1, o, by simp, h2, ?_⟩⟩
      · simp only [appx, if_neg hy, h3]
        rw [if_pos hb]
        simp
      · rw [List.take_set_of_le h2]; exact ht
      · rw [List.getElem?_set_self hlt]
theorem Gro.fin (hg : Gro T sz H h d xs) (hn : ∀ x ∈ xs, Nr x) : (d = .nils ∧ fin H h [d] = (.nils, H)) ∨ (d ≠ .nils ∧ fin H h [d] = (.fresh T sz xs, H)) := by
  obtain ⟨ht, hr⟩ := hg
  rcases hr with ⟨rfl, rfl⟩ | ⟨g, o, rfl, h2, h3⟩
  · exact .inl ⟨rfl, by simp [Go.Proofs.YtojhkbbnkhfnhaaDoor.fin, ht, YC, YD]⟩
  · refine .inr ⟨by simp, ?_⟩
    simp only [Go.Proofs.YtojhkbbnkhfnhaaDoor.fin]
    rw [if_pos ht]
    simp only [YC, YD]
    rw [if_neg (by omega), h3]
    simp only
    rw [if_pos ⟨rfl, by simp, hn⟩]
    simp
end
theorem pre_get {H h : ZQ} (ht : h.take H.length = H) {o : Nat} {x : HO} (hx : H[o]? = some x) : h[o]? = some x := by
  have hlt := (List.getElem?_eq_some_iff.1 hx).1
  have : (h.take H.length)[o]? = some x := by rw [ht]; exact hx
  rw [List.getElem?_take, if_pos hlt] at this
  exact this
theorem pre_vw {H h : ZQ} (ht : h.take H.length = H) {sz : Nat} {d : DV} {xs : List DV} (hv : vw H sz d = some xs) : vw h sz d = some xs := by
  have := List.take_append_drop H.length h
  rw [ht] at this
  rw [← this]
  exact vw_grow hv
theorem Gro.base {T sz : Nat} {H H1 h : ZQ} {d : DV} {xs : List DV} (hg : Gro T sz H1 h d xs) (hH : H1.take H.length = H) : Gro T sz H h d xs := by
  have hl := take_leG hH
  refine ⟨?_, ?_⟩
  · have h5 : h.take H.length = (h.take H1.length).take H.length := by rw [List.take_take, Nat.min_eq_left hl]
    rw [h5, hg.1, hH]
  · rcases hg.2 with h1 | ⟨g, o, h1, h2, h3⟩
    · exact .inl h1
    · exact .inr ⟨g, o, h1, by omega, h3⟩
end Go.Proofs.YtojhkbbnkhfnhaaDoor
namespace Go.Proofs.YtojhkbbnkhfnhaaDoor
attribute [local go_sem] ZX ZS ZU ZV ZN ZE ZL ZH ZJ Zu Zv ZI ZO ZP ZW ZM ZF ZT Zn Zm Ye ZR Yp put lk Od.v Za ZD Zl Yt Yi Yj Yk YA Yx DV.isU DV.cells hget ZY Yh Ya ZK splice Yb mat Yf Yw one_bool one_int one_str one_nilp one_ref one_elem one_nils one_list one_row one_nilm one_map one_nilf one_func one_nili one_ifc one_agg one_tup one_undef one_fresh
attribute [local go_sem ↓] ZG
set_option linter.unusedVariables false
set_option linter.unusedSimpArgs false
set_option maxRecDepth 10000
theorem rowB_vw {h : ZQ} {r g t n : Nat} {bl : List Bool} (h1 : h[r]? = some (.row t 1 g (bl.map DV.bool))) (hn : bl.length = n) : vw h 1 (.row r g 0 n false) = some (bl.map DV.bool) := by
  subst hn; simp [vw, h1, List.take_of_length_le]
theorem rowB_wr {h : ZQ} {r g t n : Nat} {bl : List Bool} (h1 : h[r]? = some (.row t 1 g (bl.map DV.bool))) (hn : bl.length = n) {i : Nat} (hi : i < n) (b : Bool) : stx h 1 (.elem (.row r g 0 n false) 1 i 0) (.bool b) = some (h.set r (.row t 1 g ((bl.set i b).map DV.bool))) := by
  subst hn
  have h2 : (bl.map DV.bool)[i]? = some (.bool bl[i]) := by simp [List.getElem?_eq_getElem hi]
  rw [stx, if_pos (by simp [DV.cells, DV.one])]
  simp only [h1]
  rw [if_pos (by simp [hi])]
  simp only [Nat.zero_add, h2]
  simp [eput, DV.one]
/-- Which numbers were seen. -/
def seenB (l : List Nat) (m : Nat) : List Bool := (List.range m).map fun k => decide (k ∈ l)
theorem seenB_len (l : List Nat) (m : Nat) : (seenB l m).length = m := by simp [seenB]
theorem seenB_set (l : List Nat) (m p : Nat) : (seenB l m).set p true = seenB (l ++ [p]) m := by
  apply List.ext_getElem?
  intro k
  by_cases c : k < m
  · have h1 : (seenB (l ++ [p]) m)[k]? = some (decide (k ∈ l ++ [p])) := by unfold seenB; simp [c]
    rw [h1]
    by_cases e : p = k
    · subst e
      rw [List.getElem?_set_self (by rw [seenB_len]; exact c)]
      simp
    · rw [List.getElem?_set_ne e]
      unfold seenB
      have e' : ¬ k = p := fun h => e h.symm
      simp [c, e']
  · rw [List.getElem?_eq_none (by rw [List.length_set, seenB_len]; omega), List.getElem?_eq_none (by rw [seenB_len]; omega)]
def sh (H : ZQ) (n : Int) (D B : DV) (bl : List Bool) : ZQ := H ++ [.box 41 [.int .i64 n, D, B], .row 4 1 0 (bl.map DV.bool)]
theorem loop15 {H : ZQ} {n : Int} {D B R : DV} {ys : List V} {il : List Nat} (hD : ∀ g, vw g 4 D = some (ys.map V.d)) (hR : ∀ g, vw g 1 R = some (il.map iD)) (hb : il.length ≤ 4096) (hyb : ys.length ≤ 1000) :
    ∀ (k i : Nat), il.length - i ≤ k → i ≤ il.length → ((∀ p ∈ il.drop i, p < ys.length) ∧ ∃ ex, C X (.loop lp15_0) [(1, .ref H.length 0), (5, R), (7, .row (H.length + 1) 0 0 ys.length false), (8, .int .i64 i)] (sh H n D B (seenB (il.take i) ys.length)) = some (.exit 0, (1, .ref H.length 0) :: (5, R) :: (7, .row (H.length + 1) 0 0 ys.length false) :: ex, sh H n D B (seenB il ys.length))) ∨ (¬ (∀ p ∈ il.drop i, p < ys.length) ∧ ∃ h', C X (.loop lp15_0) [(1, .ref H.length 0), (5, R), (7, .row (H.length + 1) 0 0 ys.length false), (8, .int .i64 i)] (sh H n D B (seenB (il.take i) ys.length)) = some (.ret, [(2, .nils), (3, .bool false)], h') ∧ h'.take H.length = H) := by
  intro k
  induction k with
  | zero =>
    intro i hk hi
    obtain rfl : i = il.length := by omega
    rw [List.take_length, List.drop_length]
    refine .inl ⟨by simp, [(8, .int .i64 il.length), (46, .bool false)], ?_⟩
    generalize sh H n D B (seenB il ys.length) = P
    rw [Yl]
    unfold lp15_0
    (repeat (first | rw [Zj] | rw [Zc (by simp [go_sem, hR]; exact ⟨rfl, rfl⟩)] | rw [Zx (by simp [lk, Za, Od.v, hR]; exact rfl)] | rw [Zn] | rw [Zm] | rw [Zo] | rw [ZA] | rw [Zr] | rw [Zw] | rw [Zq] | rw [Zp] | rw [Zk] | rw [Zg] | rw [Zh] | rw [Zd (by decide)] | rw [Zi] | rw [Ze] | rw [Zf] | rw [Zb (by decide)] | rw [ZB] | rw [Zt (by simp [go_sem, hR]; exact ⟨rfl, rfl⟩)] | rw [Zy (by simp [lk, Za, Od.v, hR]; exact rfl)] | rw [Zz]))
    rw [YB]
    simp [Za, lk]
  | succ k ih =>
    intro i hk hi
    by_cases c : i < il.length
    · obtain ⟨I, hI⟩ : ∃ I, I = i + 1 := ⟨_, rfl⟩
      have z1 : IntKind.i64.wrap ((i : Int) + 1) = (I : Int) := (by rw [wrap64 _ (by omega) (by omega)]; omega)
      obtain ⟨p, hpp⟩ : ∃ p, p = il[i] := ⟨_, rfl⟩
      have hpp' := hpp.symm
      have hpi : il[i]? = some p := by rw [List.getElem?_eq_getElem c, hpp]
      have hdr : il.drop i = p :: il.drop I := by rw [List.drop_eq_getElem_cons c, ← hpp, hI]
      have htk : il.take I = il.take i ++ [p] := by rw [hI, ← List.take_append_getElem c, ← hpp]
      have f1 : (sh H n D B (seenB (il.take i) ys.length))[H.length]? = some (.box 41 [.int .i64 n, D, B]) := by simp [sh]
      have f2 : (sh H n D B (seenB (il.take i) ys.length))[H.length + 1]? = some (.row 4 1 0 ((seenB (il.take i) ys.length).map DV.bool)) := by simp [sh, hget]
      by_cases hlt : p < ys.length
      · have d1 : ¬ (ys.length : Int) ≤ (p : Int) := by omega
        have d2 : ¬ ys.length ≤ p := by omega
        have r1 := rowB_vw f2 (seenB_len _ _)
        have r2 := rowB_wr f2 (seenB_len _ _) hlt true
        have Yh : (sh H n D B (seenB (il.take i) ys.length)).set (H.length + 1) (.row 4 1 0 (((seenB (il.take i) ys.length).set p true).map DV.bool)) = sh H n D B (seenB (il.take I) ys.length) := by
          rw [seenB_set, ← htk]
          simp [sh, Yh]
        rw [Yh] at r2
        have hsl : ((seenB (il.take i) ys.length).map DV.bool).length = ys.length := by rw [List.length_map, seenB_len]
        have hs : C X lp15_0 [(1, .ref H.length 0), (5, R), (7, .row (H.length + 1) 0 0 ys.length false), (8, .int .i64 i)] (sh H n D B (seenB (il.take i) ys.length)) = some (.norm, [(1, .ref H.length 0), (5, R), (7, .row (H.length + 1) 0 0 ys.length false), (8, .int .i64 I)], sh H n D B (seenB (il.take I) ys.length)) := by
          clear ih Yh
          generalize (seenB (il.take i) ys.length).map DV.bool = sl at *
          generalize sh H n D B (seenB (il.take I) ys.length) = P2 at *
          generalize sh H n D B (seenB (il.take i) ys.length) = P1 at *
          unfold lp15_0
          (repeat (first | rw [Zj] | rw [Zc (by simp [go_sem, c, z1, hR, hD, hpp', hpi, f1, r1, r2, d1, d2, hlt, hsl, ZZ]; exact ⟨rfl, rfl⟩)] | rw [Zx (by simp [lk, Za, Od.v, c, z1, hR, hD, hpp', hpi, f1, r1, r2, d1, d2, hlt, hsl, ZZ]; exact rfl)] | rw [Zn] | rw [Zm] | rw [Zo] | rw [ZA] | rw [Zr] | rw [Zw] | rw [Zq] | rw [Zp] | rw [Zk] | rw [Zg] | rw [Zh] | rw [Zd (by decide)] | rw [Zi] | rw [Ze] | rw [Zf] | rw [Zb (by decide)] | rw [ZB] | rw [Zt (by simp [go_sem, c, z1, hR, hD, hpp', hpi, f1, r1, r2, d1, d2, hlt, hsl, ZZ]; exact ⟨rfl, rfl⟩)] | rw [Zy (by simp [lk, Za, Od.v, c, z1, hR, hD, hpp', hpi, f1, r1, r2, d1, d2, hlt, hsl, ZZ]; exact rfl)] | rw [Zz]))
          simp [Za, lk]
        rw [Yl, hs, Yy, hdr]
        rcases ih I (by omega) (by omega) with ⟨h1, h2⟩ | ⟨h1, h2⟩
        · refine .inl ⟨fun q hq => ?_, h2⟩
          rcases List.mem_cons.1 hq with rfl | hq
          · exact hlt
          · exact h1 q hq
        · exact .inr ⟨fun h => h1 fun q hq => h q (List.mem_cons_of_mem _ hq), h2⟩
      · right
        have d1 : (ys.length : Int) ≤ (p : Int) := by omega
        have d2 : ys.length ≤ p := by omega
        refine ⟨fun h => hlt (h p (by rw [hdr]; exact List.mem_cons_self ..)), sh H n D B (seenB (il.take i) ys.length), ?_, by simp [sh]⟩
        have hs : C X lp15_0 [(1, .ref H.length 0), (5, R), (7, .row (H.length + 1) 0 0 ys.length false), (8, .int .i64 i)] (sh H n D B (seenB (il.take i) ys.length)) = some (.ret, [(2, .nils), (3, .bool false)], sh H n D B (seenB (il.take i) ys.length)) := by
          clear ih
          generalize sh H n D B (seenB (il.take i) ys.length) = P1 at *
          unfold lp15_0
          (repeat (first | rw [Zj] | rw [Zc (by simp [go_sem, c, z1, hR, hD, hpp', hpi, f1, d1, d2, ZZ]; exact ⟨rfl, rfl⟩)] | rw [Zx (by simp [lk, Za, Od.v, c, z1, hR, hD, hpp', hpi, f1, d1, d2, ZZ]; exact rfl)] | rw [Zn] | rw [Zm] | rw [Zo] | rw [ZA] | rw [Zr] | rw [Zw] | rw [Zq] | rw [Zp] | rw [Zk] | rw [Zg] | rw [Zh] | rw [Zd (by decide)] | rw [Zi] | rw [Ze] | rw [Zf] | rw [Zb (by decide)] | rw [ZB] | rw [Zt (by simp [go_sem, c, z1, hR, hD, hpp', hpi, f1, d1, d2, ZZ]; exact ⟨rfl, rfl⟩)] | rw [Zy (by simp [lk, Za, Od.v, c, z1, hR, hD, hpp', hpi, f1, d1, d2, ZZ]; exact rfl)] | rw [Zz]))
          simp [Za, lk]
        rw [Yl, hs, lp_ret]
    · exact ih i (by omega) hi
theorem loop15b {h : ZQ} {S R : DV} {il : List Nat} {m : Nat} (hS : vw h 1 S = some ((seenB il m).map DV.bool)) (hm : m ≤ 1000) :
    ∀ (j k : Nat), m - k ≤ j → k ≤ m → ((∀ q, k ≤ q → q < m → q ∈ il) ∧ ∃ ex, C X (.loop lp15_1) [(5, R), (7, S), (9, .int .i64 k)] h = some (.exit 2, (5, R) :: (7, S) :: ex, h)) ∨ (¬ (∀ q, k ≤ q → q < m → q ∈ il) ∧ C X (.loop lp15_1) [(5, R), (7, S), (9, .int .i64 k)] h = some (.ret, [(2, .nils), (3, .bool false)], h)) := by
  have hsl : ((seenB il m).map DV.bool).length = m := by rw [List.length_map, seenB_len]
  intro j
  induction j with
  | zero =>
    intro k hj hk
    obtain rfl : k = m := by omega
    refine .inl ⟨fun q h1 h2 => by omega, [(9, .int .i64 k), (66, .bool false)], ?_⟩
    generalize (seenB il k).map DV.bool = sl at *
    rw [Yl]
    unfold lp15_1
    (repeat (first | rw [Zj] | rw [Zc (by simp [go_sem, hS, hsl]; exact ⟨rfl, rfl⟩)] | rw [Zx (by simp [lk, Za, Od.v, hS, hsl]; exact rfl)] | rw [Zn] | rw [Zm] | rw [Zo] | rw [ZA] | rw [Zr] | rw [Zw] | rw [Zq] | rw [Zp] | rw [Zk] | rw [Zg] | rw [Zh] | rw [Zd (by decide)] | rw [Zi] | rw [Ze] | rw [Zf] | rw [Zb (by decide)] | rw [ZB] | rw [Zt (by simp [go_sem, hS, hsl]; exact ⟨rfl, rfl⟩)] | rw [Zy (by simp [lk, Za, Od.v, hS, hsl]; exact rfl)] | rw [Zz]))
    rw [YB]
    simp [Za, lk]
  | succ j ih =>
    intro k hj hk
    by_cases c : k < m
    · obtain ⟨K, hK⟩ : ∃ K, K = k + 1 := ⟨_, rfl⟩
      have z1 : IntKind.i64.wrap ((k : Int) + 1) = (K : Int) := (by rw [wrap64 _ (by omega) (by omega)]; omega)
      have hg : ((seenB il m).map DV.bool)[k]? = some (.bool (decide (k ∈ il))) := by unfold seenB; simp [c]
      obtain ⟨hk2, hg2⟩ := List.getElem?_eq_some_iff.1 hg
      have hk3 : k < ((seenB il m).map DV.bool).length := hk2
      by_cases hin : k ∈ il
      · rw [decide_eq_true hin] at hg hg2
        have hs : C X lp15_1 [(5, R), (7, S), (9, .int .i64 k)] h = some (.norm, [(5, R), (7, S), (9, .int .i64 K)], h) := by
          clear ih
          generalize (seenB il m).map DV.bool = sl at *
          unfold lp15_1
          (repeat (first | rw [Zj] | rw [Zc (by simp [go_sem, c, z1, hS, hsl, hg, hg2, ZZ]; exact ⟨rfl, rfl⟩)] | rw [Zx (by simp [lk, Za, Od.v, c, z1, hS, hsl, hg, hg2, ZZ]; exact rfl)] | rw [Zn] | rw [Zm] | rw [Zo] | rw [ZA] | rw [Zr] | rw [Zw] | rw [Zq] | rw [Zp] | rw [Zk] | rw [Zg] | rw [Zh] | rw [Zd (by decide)] | rw [Zi] | rw [Ze] | rw [Zf] | rw [Zb (by decide)] | rw [ZB] | rw [Zt (by simp [go_sem, c, z1, hS, hsl, hg, hg2, ZZ]; exact ⟨rfl, rfl⟩)] | rw [Zy (by simp [lk, Za, Od.v, c, z1, hS, hsl, hg, hg2, ZZ]; exact rfl)] | rw [Zz]))
          simp [Za, lk]
        rw [Yl, hs, Yy]
        rcases ih K (by omega) (by omega) with ⟨h1, h2⟩ | ⟨h1, h2⟩
        · refine .inl ⟨fun q h3 h4 => ?_, h2⟩
          by_cases e : q = k
          · rw [e]; exact hin
          · exact h1 q (by omega) h4
        · exact .inr ⟨fun h3 => h1 fun q h4 h5 => h3 q (by omega) h5, h2⟩
      · rw [decide_eq_false hin] at hg hg2
        right
        refine ⟨fun h3 => hin (h3 k (Nat.le_refl _) c), ?_⟩
        have hs : C X lp15_1 [(5, R), (7, S), (9, .int .i64 k)] h = some (.ret, [(2, .nils), (3, .bool false)], h) := by
          clear ih
          generalize (seenB il m).map DV.bool = sl at *
          unfold lp15_1
          (repeat (first | rw [Zj] | rw [Zc (by simp [go_sem, c, z1, hS, hsl, hg, hg2, ZZ]; exact ⟨rfl, rfl⟩)] | rw [Zx (by simp [lk, Za, Od.v, c, z1, hS, hsl, hg, hg2, ZZ]; exact rfl)] | rw [Zn] | rw [Zm] | rw [Zo] | rw [ZA] | rw [Zr] | rw [Zw] | rw [Zq] | rw [Zp] | rw [Zk] | rw [Zg] | rw [Zh] | rw [Zd (by decide)] | rw [Zi] | rw [Ze] | rw [Zf] | rw [Zb (by decide)] | rw [ZB] | rw [Zt (by simp [go_sem, c, z1, hS, hsl, hg, hg2, ZZ]; exact ⟨rfl, rfl⟩)] | rw [Zy (by simp [lk, Za, Od.v, c, z1, hS, hsl, hg, hg2, ZZ]; exact rfl)] | rw [Zz]))
          simp [Za, lk]
        rw [Yl, hs, lp_ret]
    · exact ih k (by omega) hk
def IdsR (R : DV) (n : Int) (ys : List V) (bs : List Nat) : Prop := (R = .nils ∧ idsN bs (wC ys.length) n.toNat = []) ∨ R = .list 1 ((idsN bs (wC ys.length) n.toNat).map iD) false
open Classical in
set_option maxHeartbeats 2000000 in
theorem run15 {H : ZQ} {n : Int} {D B : DV} {ys : List V} {bs : List Nat} (hD : ValL D ys) (hyb : ys.length ≤ 200) (hsm : ∀ x ∈ ys, Sm x) (hB : BytesL B bs) (bb : BB bs) (hbb : bs.length ≤ 10000) :
    ∃ R, E X 15 [colD n D B] H = some (.tup [R, .bool (decide (okC n ys bs))], H) ∧ ((okC n ys bs ∧ IdsR R n ys bs) ∨ (¬ okC n ys bs ∧ R = .nils)) := by
  have hDv := hD.vw
  have e42 := fun g => run42 (h := g) (A := D) (hD.vw g) (by omega) hsm
  have bad : ¬ okC n ys bs → E X 15 [colD n D B] H = some (.tup [.nils, .bool false], H) → ∃ R, E X 15 [colD n D B] H = some (.tup [R, .bool (decide (okC n ys bs))], H) ∧ ((okC n ys bs ∧ IdsR R n ys bs) ∨ (¬ okC n ys bs ∧ R = .nils)) := by
    intro h1 h2
    rw [decide_eq_false h1]
    exact ⟨.nils, h2, .inr ⟨h1, rfl⟩⟩
  by_cases c1 : n < 0
  · refine bad (fun h => by have := h.1; omega) ?_
    generalize risL none ys = r at *
    rw [Yg (X := X) _ b15 _ rfl rfl]; unfold b15; (repeat (first | rw [Zj] | rw [Zc (by simp [go_sem, c1, e42, hDv]; exact ⟨rfl, rfl⟩)] | rw [Zx (by simp [lk, Za, Od.v, c1, e42, hDv]; exact rfl)] | rw [Zn] | rw [Zm] | rw [Zo] | rw [ZA] | rw [Zr] | rw [Zw] | rw [Zq] | rw [Zp] | rw [Zk] | rw [Zg] | rw [Zh] | rw [Zd (by decide)] | rw [Zi] | rw [Ze] | rw [Zf] | rw [Zb (by decide)] | rw [ZB] | rw [Zt (by simp [go_sem, c1, e42, hDv]; exact ⟨rfl, rfl⟩)] | rw [Zy (by simp [lk, Za, Od.v, c1, e42, hDv]; exact rfl)] | rw [Zz])); simp [Zs, ZC, Yc, go_sem, fin, YD, YC, YG, YF, YI, c1, e42, hDv]
  by_cases c2 : 4096 < n
  · refine bad (fun h => by have := h.2.1; omega) ?_
    generalize risL none ys = r at *
    rw [Yg (X := X) _ b15 _ rfl rfl]; unfold b15; (repeat (first | rw [Zj] | rw [Zc (by simp [go_sem, c1, c2, e42, hDv]; exact ⟨rfl, rfl⟩)] | rw [Zx (by simp [lk, Za, Od.v, c1, c2, e42, hDv]; exact rfl)] | rw [Zn] | rw [Zm] | rw [Zo] | rw [ZA] | rw [Zr] | rw [Zw] | rw [Zq] | rw [Zp] | rw [Zk] | rw [Zg] | rw [Zh] | rw [Zd (by decide)] | rw [Zi] | rw [Ze] | rw [Zf] | rw [Zb (by decide)] | rw [ZB] | rw [Zt (by simp [go_sem, c1, c2, e42, hDv]; exact ⟨rfl, rfl⟩)] | rw [Zy (by simp [lk, Za, Od.v, c1, c2, e42, hDv]; exact rfl)] | rw [Zz])); simp [Zs, ZC, Yc, go_sem, fin, YD, YC, YG, YF, YI, c1, c2, e42, hDv]
  obtain ⟨m, rfl⟩ : ∃ m : Nat, n = (m : Int) := ⟨n.toNat, by omega⟩
  have d1 : ¬ 4096 < m := by omega
  cases c3 : risL none ys
  · refine bad (fun h => by have := h.2.2.1; rw [c3] at this; cases this) ?_
    rw [c3] at e42
    rw [Yg (X := X) _ b15 _ rfl rfl]; unfold b15; (repeat (first | rw [Zj] | rw [Zc (by simp [go_sem, c1, c2, d1, e42, hDv]; exact ⟨rfl, rfl⟩)] | rw [Zx (by simp [lk, Za, Od.v, c1, c2, d1, e42, hDv]; exact rfl)] | rw [Zn] | rw [Zm] | rw [Zo] | rw [ZA] | rw [Zr] | rw [Zw] | rw [Zq] | rw [Zp] | rw [Zk] | rw [Zg] | rw [Zh] | rw [Zd (by decide)] | rw [Zi] | rw [Ze] | rw [Zf] | rw [Zb (by decide)] | rw [ZB] | rw [Zt (by simp [go_sem, c1, c2, d1, e42, hDv]; exact ⟨rfl, rfl⟩)] | rw [Zy (by simp [lk, Za, Od.v, c1, c2, d1, e42, hDv]; exact rfl)] | rw [Zz])); simp [Zs, ZC, Yc, go_sem, fin, YD, YC, YG, YF, YI, c1, c2, d1, e42, hDv]
  rw [c3] at e42
  have hwl : wC ys.length ≤ 61 := by
    have h1 := wN_mono (ys.length - 1) 255 (by omega)
    have h2 : wN 255 = 8 := by decide
    unfold wC; omega
  have e44 := fun g => run44 ys.length (by omega) g
  obtain ⟨R, e, e43, hR⟩ := run43 (H := H ++ [.box 41 [.int .i64 m, D, B]]) hB.vw bb hbb hwl (n := m) (by omega)
  rcases hR with ⟨c4, rfl, hR⟩ | ⟨c4, he⟩
  case inr =>
    refine bad (fun h => c4 h.2.2.2.1) ?_
    have he' : ¬ e = 0 := by simpa using he
    generalize wC ys.length = w at *
    clear bad c4 hB bb
    rw [Yg (X := X) _ b15 _ rfl rfl]; unfold b15; (repeat (first | rw [Zj] | rw [Zc (by simp [go_sem, c1, c2, d1, e42, e43, e44, he, he', hDv]; exact ⟨rfl, rfl⟩)] | rw [Zx (by simp [lk, Za, Od.v, c1, c2, d1, e42, e43, e44, he, he', hDv]; exact rfl)] | rw [Zn] | rw [Zm] | rw [Zo] | rw [ZA] | rw [Zr] | rw [Zw] | rw [Zq] | rw [Zp] | rw [Zk] | rw [Zg] | rw [Zh] | rw [Zd (by decide)] | rw [Zi] | rw [Ze] | rw [Zf] | rw [Zb (by decide)] | rw [ZB] | rw [Zt (by simp [go_sem, c1, c2, d1, e42, e43, e44, he, he', hDv]; exact ⟨rfl, rfl⟩)] | rw [Zy (by simp [lk, Za, Od.v, c1, c2, d1, e42, e43, e44, he, he', hDv]; exact rfl)] | rw [Zz])); simp [Zs, ZC, Yc, go_sem, fin, YD, YC, YG, YF, YI, c1, c2, d1, e42, e43, e44, he, he', hDv]
  obtain ⟨il, hil⟩ : ∃ il, il = idsN bs (wC ys.length) m := ⟨_, rfl⟩
  rw [← hil] at hR
  have hn : il.length = m := by rw [hil]; exact idsN_len _ _ _
  have hRv : ∀ g, vw g 1 R = some (il.map iD) := fun g => by rcases hR with ⟨rfl, rfl⟩ | rfl <;> rfl
  have hs0 : sh H m D B (seenB (il.take 0) ys.length) = H ++ [.box 41 [.int .i64 m, D, B], .row 4 1 0 (List.replicate ys.length (.bool false))] := by
    have : (seenB (il.take 0) ys.length).map DV.bool = List.replicate ys.length (.bool false) := by
      unfold seenB
      apply List.ext_getElem <;> simp
    unfold sh
    rw [this]
  have hW : Wc 1 (.bool false) := by simp [Wc, DV.cells, DV.one]
  have m0 : (0 : Int) ≤ (ys.length : Int) := by omega
  have m1 : (ys.length : Int) ≤ 140737488355328 := by omega
  have m1' : (ys.length : Int) * 1 ≤ 140737488355328 := by omega
  rcases loop15 (H := H) (n := m) (D := D) (B := B) (R := R) hDv hRv (by omega) (by omega) il.length 0 (by omega) (by omega) with ⟨c5, ex, hc⟩ | ⟨c5, h', hc, ht⟩
  case inr =>
    refine bad (fun h => c5 (by rw [List.drop_zero, hil]; exact h.2.2.2.2.1)) ?_
    rw [hs0, show ((0 : Nat) : Int) = 0 from rfl] at hc
    have hfin := fin_nf ht
    generalize wC ys.length = w at *
    clear bad c4 c5 hB bb hil hs0
    rw [Yg (X := X) _ b15 _ rfl rfl]; unfold b15
    (repeat (first | rw [Zj] | rw [Zc (by simp [go_sem, c1, c2, d1, e42, e43, e44, hDv, hW, m0, m1, m1']; exact ⟨rfl, rfl⟩)] | rw [Zx (by simp [lk, Za, Od.v, c1, c2, d1, e42, e43, e44, hDv, hW, m0, m1, m1']; exact rfl)] | rw [Zn] | rw [Zm] | rw [Zo] | rw [ZA] | rw [Zr] | rw [Zw] | rw [Zq] | rw [Zp] | rw [Zk] | rw [Zg] | rw [Zh] | rw [Zd (by decide)] | rw [Zi] | rw [Ze] | rw [Zf] | rw [Zb (by decide)] | rw [ZB] | rw [Zt (by simp [go_sem, c1, c2, d1, e42, e43, e44, hDv, hW, m0, m1, m1']; exact ⟨rfl, rfl⟩)] | rw [Zy (by simp [lk, Za, Od.v, c1, c2, d1, e42, e43, e44, hDv, hW, m0, m1, m1']; exact rfl)] | rw [Zz]))
    (try simp only [Za, List.map_cons, List.map_nil, lk, reduceIte, Nat.reduceEqDiff, Nat.zero_ne_one, Nat.one_ne_zero])
    rw [hc]
    (repeat (first | rw [Zj] | rw [Zc (by simp [go_sem]; exact ⟨rfl, rfl⟩)] | rw [Zx (by simp [lk, Za, Od.v]; exact rfl)] | rw [Zn] | rw [Zm] | rw [Zo] | rw [ZA] | rw [Zr] | rw [Zw] | rw [Zq] | rw [Zp] | rw [Zk] | rw [Zg] | rw [Zh] | rw [Zd (by decide)] | rw [Zi] | rw [Ze] | rw [Zf] | rw [Zb (by decide)] | rw [ZB] | rw [Zt (by simp [go_sem]; exact ⟨rfl, rfl⟩)] | rw [Zy (by simp [lk, Za, Od.v]; exact rfl)] | rw [Zz]))
    simp only [Zs, Yc, lk, Za, List.map_cons, List.map_nil, reduceIte, Option.map_some, Nat.reduceEqDiff, hfin]
  rw [List.drop_zero] at c5
  rw [hs0, show ((0 : Nat) : Int) = 0 from rfl] at hc
  have f2 : (sh H m D B (seenB il ys.length))[H.length + 1]? = some (.row 4 1 0 ((seenB il ys.length).map DV.bool)) := by simp [sh, hget]
  have hS := rowB_vw f2 (seenB_len _ _)
  have htk : (sh H m D B (seenB il ys.length)).take H.length = H := by simp [sh]
  rcases loop15b (R := R) hS (by omega) ys.length 0 (by omega) (by omega) with ⟨c6, ex2, hc2⟩ | ⟨c6, hc2⟩
  · have hok : okC m ys bs := ⟨by omega, by omega, c3, c4, by rw [Int.toNat_natCast, ← hil]; exact c5, by rw [Int.toNat_natCast, ← hil]; exact fun k hk => c6 k (by omega) hk⟩
    refine ⟨R, ?_, .inl ⟨hok, by unfold IdsR; rw [Int.toNat_natCast, ← hil]; exact hR⟩⟩
    rw [decide_eq_true hok]
    have hfin : fin H (sh H m D B (seenB il ys.length)) [R, .bool true] = (.tup [R, .bool true], H) := by
      simp only [fin]
      rw [if_pos htk]
      rcases hR with ⟨rfl, _⟩ | rfl <;> rfl
    rw [show ((0 : Nat) : Int) = 0 from rfl] at hc2
    generalize sh H m D B (seenB il ys.length) = P at *
    generalize wC ys.length = w at *
    clear bad c4 c5 hB bb hil hs0 hok c6
    rw [Yg (X := X) _ b15 _ rfl rfl]; unfold b15
    (repeat (first | rw [Zj] | rw [Zc (by simp [go_sem, c1, c2, d1, e42, e43, e44, hDv, hW, m0, m1, m1']; exact ⟨rfl, rfl⟩)] | rw [Zx (by simp [lk, Za, Od.v, c1, c2, d1, e42, e43, e44, hDv, hW, m0, m1, m1']; exact rfl)] | rw [Zn] | rw [Zm] | rw [Zo] | rw [ZA] | rw [Zr] | rw [Zw] | rw [Zq] | rw [Zp] | rw [Zk] | rw [Zg] | rw [Zh] | rw [Zd (by decide)] | rw [Zi] | rw [Ze] | rw [Zf] | rw [Zb (by decide)] | rw [ZB] | rw [Zt (by simp [go_sem, c1, c2, d1, e42, e43, e44, hDv, hW, m0, m1, m1']; exact ⟨rfl, rfl⟩)] | rw [Zy (by simp [lk, Za, Od.v, c1, c2, d1, e42, e43, e44, hDv, hW, m0, m1, m1']; exact rfl)] | rw [Zz]))
    (try simp only [Za, List.map_cons, List.map_nil, lk, reduceIte, Nat.reduceEqDiff, Nat.zero_ne_one, Nat.one_ne_zero])
    rw [hc]
    (repeat (first | rw [Zj] | rw [Zc (by simp [go_sem]; exact ⟨rfl, rfl⟩)] | rw [Zx (by simp [lk, Za, Od.v]; exact rfl)] | rw [Zn] | rw [Zm] | rw [Zo] | rw [ZA] | rw [Zr] | rw [Zw] | rw [Zq] | rw [Zp] | rw [Zk] | rw [Zg] | rw [Zh] | rw [Zd (by decide)] | rw [Zi] | rw [Ze] | rw [Zf] | rw [Zb (by decide)] | rw [ZB] | rw [Zt (by simp [go_sem]; exact ⟨rfl, rfl⟩)] | rw [Zy (by simp [lk, Za, Od.v]; exact rfl)] | rw [Zz]))
    (try simp only [Za, List.map_cons, List.map_nil, lk, reduceIte, Nat.reduceEqDiff, Nat.zero_ne_one, Nat.one_ne_zero])
    rw [hc2]
    (repeat (first | rw [Zj] | rw [Zc (by simp [go_sem]; exact ⟨rfl, rfl⟩)] | rw [Zx (by simp [lk, Za, Od.v]; exact rfl)] | rw [Zn] | rw [Zm] | rw [Zo] | rw [ZA] | rw [Zr] | rw [Zw] | rw [Zq] | rw [Zp] | rw [Zk] | rw [Zg] | rw [Zh] | rw [Zd (by decide)] | rw [Zi] | rw [Ze] | rw [Zf] | rw [Zb (by decide)] | rw [ZB] | rw [Zt (by simp [go_sem]; exact ⟨rfl, rfl⟩)] | rw [Zy (by simp [lk, Za, Od.v]; exact rfl)] | rw [Zz]))
    simp only [Zs, Yc, lk, Za, List.map_cons, List.map_nil, reduceIte, Option.map_some, Nat.reduceEqDiff, hfin]
  · refine bad (fun h => c6 (fun k _ hk => by rw [hil]; exact h.2.2.2.2.2 k hk)) ?_
    have hfin := fin_nf htk
    rw [show ((0 : Nat) : Int) = 0 from rfl] at hc2
    generalize sh H m D B (seenB il ys.length) = P at *
    generalize wC ys.length = w at *
    clear bad c4 c5 hB bb hil hs0 c6
    rw [Yg (X := X) _ b15 _ rfl rfl]; unfold b15
    (repeat (first | rw [Zj] | rw [Zc (by simp [go_sem, c1, c2, d1, e42, e43, e44, hDv, hW, m0, m1, m1']; exact ⟨rfl, rfl⟩)] | rw [Zx (by simp [lk, Za, Od.v, c1, c2, d1, e42, e43, e44, hDv, hW, m0, m1, m1']; exact rfl)] | rw [Zn] | rw [Zm] | rw [Zo] | rw [ZA] | rw [Zr] | rw [Zw] | rw [Zq] | rw [Zp] | rw [Zk] | rw [Zg] | rw [Zh] | rw [Zd (by decide)] | rw [Zi] | rw [Ze] | rw [Zf] | rw [Zb (by decide)] | rw [ZB] | rw [Zt (by simp [go_sem, c1, c2, d1, e42, e43, e44, hDv, hW, m0, m1, m1']; exact ⟨rfl, rfl⟩)] | rw [Zy (by simp [lk, Za, Od.v, c1, c2, d1, e42, e43, e44, hDv, hW, m0, m1, m1']; exact rfl)] | rw [Zz]))
    (try simp only [Za, List.map_cons, List.map_nil, lk, reduceIte, Nat.reduceEqDiff, Nat.zero_ne_one, Nat.one_ne_zero])
    rw [hc]
    (repeat (first | rw [Zj] | rw [Zc (by simp [go_sem]; exact ⟨rfl, rfl⟩)] | rw [Zx (by simp [lk, Za, Od.v]; exact rfl)] | rw [Zn] | rw [Zm] | rw [Zo] | rw [ZA] | rw [Zr] | rw [Zw] | rw [Zq] | rw [Zp] | rw [Zk] | rw [Zg] | rw [Zh] | rw [Zd (by decide)] | rw [Zi] | rw [Ze] | rw [Zf] | rw [Zb (by decide)] | rw [ZB] | rw [Zt (by simp [go_sem]; exact ⟨rfl, rfl⟩)] | rw [Zy (by simp [lk, Za, Od.v]; exact rfl)] | rw [Zz]))
    (try simp only [Za, List.map_cons, List.map_nil, lk, reduceIte, Nat.reduceEqDiff, Nat.zero_ne_one, Nat.one_ne_zero])
    rw [hc2]
    (repeat (first | rw [Zj] | rw [Zc (by simp [go_sem]; exact ⟨rfl, rfl⟩)] | rw [Zx (by simp [lk, Za, Od.v]; exact rfl)] | rw [Zn] | rw [Zm] | rw [Zo] | rw [ZA] | rw [Zr] | rw [Zw] | rw [Zq] | rw [Zp] | rw [Zk] | rw [Zg] | rw [Zh] | rw [Zd (by decide)] | rw [Zi] | rw [Ze] | rw [Zf] | rw [Zb (by decide)] | rw [ZB] | rw [Zt (by simp [go_sem]; exact ⟨rfl, rfl⟩)] | rw [Zy (by simp [lk, Za, Od.v]; exact rfl)] | rw [Zz]))
    simp only [Zs, Yc, lk, Za, List.map_cons, List.map_nil, reduceIte, Option.map_some, Nat.reduceEqDiff, hfin]
def valI (ys : List V) (il : List Nat) : List V := il.map fun p => ys.getD p v0
def ValD (d : DV) (vs : List V) : Prop := (d = .nils ∧ vs = []) ∨ d = .fresh 48 4 (vs.map V.d)
theorem nr_vals (vs : List V) : ∀ x ∈ vs.map V.d, Nr x := fun x hx => by
  obtain ⟨v, _, rfl⟩ := List.mem_map.1 hx
  exact v.nr
theorem Gro.valD {H h : ZQ} {d : DV} {vs : List V} (hg : Gro 48 4 H h d (vs.map V.d)) : ∃ R, Go.Proofs.YtojhkbbnkhfnhaaDoor.fin H h [d] = (R, H) ∧ ValD R vs := by
  rcases hg.fin (nr_vals vs) with ⟨rfl, h1⟩ | ⟨_, h1⟩
  · refine ⟨_, h1, .inl ⟨rfl, ?_⟩⟩
    rcases hg.2 with ⟨_, h2⟩ | ⟨g, o, h2, _⟩
    · simpa using h2
    · cases h2
  · exact ⟨_, h1, .inr rfl⟩
theorem loop16 {Hb : ZQ} {n : Int} {D B R : DV} {ys : List V} {il : List Nat} {b : Nat} (hb : Hb[b]? = some (.box 41 [.int .i64 n, D, B])) (hD : ∀ g, vw g 4 D = some (ys.map V.d)) (hR : ∀ g, vw g 1 R = some (il.map iD)) (hl : il.length ≤ 4096) (hlt : ∀ p ∈ il, p < ys.length) :
    ∀ (m i : Nat) (h : ZQ) (o : DV), il.length - i ≤ m → i ≤ il.length → Gro 48 4 Hb h o ((valI ys (il.take i)).map V.d) → ∃ ex h' o', C X (.loop lp16_0) [(1, .ref b 0), (3, R), (5, o), (6, .int .i64 i)] h = some (.exit 0, (1, .ref b 0) :: (3, R) :: (5, o') :: ex, h') ∧ Gro 48 4 Hb h' o' ((valI ys il).map V.d) := by
  intro m
  induction m with
  | zero =>
    intro i h o hm hi hg
    obtain rfl : i = il.length := by omega
    refine ⟨[(6, .int .i64 il.length), (15, .bool false)], h, o, ?_, by rw [List.take_length] at hg; exact hg⟩
    rw [Yl]
    unfold lp16_0
    (repeat (first | rw [Zj] | rw [Zc (by simp [go_sem, hR]; exact ⟨rfl, rfl⟩)] | rw [Zx (by simp [lk, Za, Od.v, hR]; exact rfl)] | rw [Zn] | rw [Zm] | rw [Zo] | rw [ZA] | rw [Zr] | rw [Zw] | rw [Zq] | rw [Zp] | rw [Zk] | rw [Zg] | rw [Zh] | rw [Zd (by decide)] | rw [Zi] | rw [Ze] | rw [Zf] | rw [Zb (by decide)] | rw [ZB] | rw [Zt (by simp [go_sem, hR]; exact ⟨rfl, rfl⟩)] | rw [Zy (by simp [lk, Za, Od.v, hR]; exact rfl)] | rw [Zz]))
    rw [YB]
    simp [Za, lk]
  | succ m ih =>
    intro i h o hm hi hg
    by_cases c : i < il.length
    · obtain ⟨I, hI⟩ : ∃ I, I = i + 1 := ⟨_, rfl⟩
      have z1 : IntKind.i64.wrap ((i : Int) + 1) = (I : Int) := (by rw [wrap64 _ (by omega) (by omega)]; omega)
      obtain ⟨p, hpp⟩ : ∃ p, p = il[i] := ⟨_, rfl⟩
      have hpp' := hpp.symm
      have hpi : il[i]? = some p := by rw [List.getElem?_eq_getElem c, hpp]
      have hpl := hlt p (by rw [hpp]; exact List.getElem_mem c)
      obtain ⟨v, hv⟩ : ∃ v, v = ys[p] := ⟨_, rfl⟩
      have hv' := hv.symm
      have hvp : ys[p]? = some v := by rw [hv]; exact List.getElem?_eq_getElem hpl
      have hgd : ys.getD p v0 = v := by rw [List.getD_eq_getElem?_getD, hvp]; rfl
      have e : (valI ys (il.take I)).map V.d = (valI ys (il.take i)).map V.d ++ [v.d] := by
        unfold valI
        rw [hI, ← List.take_append_getElem c, ← hpp]
        simp only [List.map_append, List.map_cons, List.map_nil, hgd]
      have hln : ((valI ys (il.take i)).map V.d).length ≤ 4096 := by unfold valI; simp; omega
      obtain ⟨o2, h2, ha, hg2⟩ := hg.app 40 [v.d] (by simp only [List.length_cons, List.length_nil]; omega)
      rw [← e] at hg2
      have hIH := ih I h2 o2 (by omega) (by omega) hg2
      have hb' := pre_get hg.1 hb
      have hw := hg.vw
      have y1 : ∀ h, eltL [v.d] h = some ([v.d], h) := fun _ => rfl
      have y2 : Wc 4 v.d := by simp [Wc, DV.cells, V.d, DV.one]
      have y3 : Nr v.d := v.nr
      have y4 : ∀ h, srcOf h 4 (.list 4 [v.d] true) = some [v.d] := fun _ => rfl
      have hs : C X lp16_0 [(1, .ref b 0), (3, R), (5, o), (6, .int .i64 i)] h = some (.norm, [(1, .ref b 0), (3, R), (5, o2), (6, .int .i64 I)], h2) := by
        clear ih hIH hg hg2 e hln hb hgd
        generalize (valI ys (il.take i)).map V.d = cur at *
        obtain ⟨vk, vn, vs', vt⟩ := v
        simp only [V.d] at *
        unfold lp16_0
        (repeat (first | rw [Zj] | rw [Zc (by simp [go_sem, c, z1, hR, hD, hpp', hpi, hpl, hvp, hv', hb', y1, y2, y3, y4, hw, ha, ZZ]; exact ⟨rfl, rfl⟩)] | rw [Zx (by simp [lk, Za, Od.v, c, z1, hR, hD, hpp', hpi, hpl, hvp, hv', hb', y1, y2, y3, y4, hw, ha, ZZ]; exact rfl)] | rw [Zn] | rw [Zm] | rw [Zo] | rw [ZA] | rw [Zr] | rw [Zw] | rw [Zq] | rw [Zp] | rw [Zk] | rw [Zg] | rw [Zh] | rw [Zd (by decide)] | rw [Zi] | rw [Ze] | rw [Zf] | rw [Zb (by decide)] | rw [ZB] | rw [Zt (by simp [go_sem, c, z1, hR, hD, hpp', hpi, hpl, hvp, hv', hb', y1, y2, y3, y4, hw, ha, ZZ]; exact ⟨rfl, rfl⟩)] | rw [Zy (by simp [lk, Za, Od.v, c, z1, hR, hD, hpp', hpi, hpl, hvp, hv', hb', y1, y2, y3, y4, hw, ha, ZZ]; exact rfl)] | rw [Zz]))
        simp [Za, lk]
      rw [Yl, hs, Yy]
      exact hIH
    · exact ih i h o (by omega) hi hg
theorem loop18 {Hb : ZQ} {n : Int} {D B R : DV} {ys : List V} {il : List Nat} {b : Nat} (hb : Hb[b]? = some (.box 41 [.int .i64 n, D, B])) (hD : ∀ g, vw g 4 D = some (ys.map V.d)) (hR : ∀ g, vw g 1 R = some (il.map iD)) (hl : il.length ≤ 4096) (hlt : ∀ p ∈ il, p < ys.length) :
    ∀ (m i : Nat) (h : ZQ) (o : DV), il.length - i ≤ m → i ≤ il.length → Gro 48 4 Hb h o ((valI ys (il.take i)).map V.d) → ∃ ex h' o', C X (.loop lp18_0) [(1, .ref b 0), (5, o), (15, R), (16, .int .i64 il.length), (17, .int .i64 i)] h = some (.exit 0, (1, .ref b 0) :: (5, o') :: ex, h') ∧ Gro 48 4 Hb h' o' ((valI ys il).map V.d) := by
  intro m
  induction m with
  | zero =>
    intro i h o hm hi hg
    obtain rfl : i = il.length := by omega
    refine ⟨[(15, R), (16, .int .i64 il.length), (17, .int .i64 il.length), (18, .bool false)], h, o, ?_, by rw [List.take_length] at hg; exact hg⟩
    rw [Yl]
    unfold lp18_0
    (repeat (first | rw [Zj] | rw [Zc (by simp [go_sem]; exact ⟨rfl, rfl⟩)] | rw [Zx (by simp [lk, Za, Od.v]; exact rfl)] | rw [Zn] | rw [Zm] | rw [Zo] | rw [ZA] | rw [Zr] | rw [Zw] | rw [Zq] | rw [Zp] | rw [Zk] | rw [Zg] | rw [Zh] | rw [Zd (by decide)] | rw [Zi] | rw [Ze] | rw [Zf] | rw [Zb (by decide)] | rw [ZB] | rw [Zt (by simp [go_sem]; exact ⟨rfl, rfl⟩)] | rw [Zy (by simp [lk, Za, Od.v]; exact rfl)] | rw [Zz]))
    rw [YB]
    simp [Za, lk]
  | succ m ih =>
    intro i h o hm hi hg
    by_cases c : i < il.length
    · obtain ⟨I, hI⟩ : ∃ I, I = i + 1 := ⟨_, rfl⟩
      have z1 : IntKind.i64.wrap ((i : Int) + 1) = (I : Int) := (by rw [wrap64 _ (by omega) (by omega)]; omega)
      obtain ⟨p, hpp⟩ : ∃ p, p = il[i] := ⟨_, rfl⟩
      have hpp' := hpp.symm
      have hpi : il[i]? = some p := by rw [List.getElem?_eq_getElem c, hpp]
      have hpl := hlt p (by rw [hpp]; exact List.getElem_mem c)
      obtain ⟨v, hv⟩ : ∃ v, v = ys[p] := ⟨_, rfl⟩
      have hv' := hv.symm
      have hvp : ys[p]? = some v := by rw [hv]; exact List.getElem?_eq_getElem hpl
      have hgd : ys.getD p v0 = v := by rw [List.getD_eq_getElem?_getD, hvp]; rfl
      have e : (valI ys (il.take I)).map V.d = (valI ys (il.take i)).map V.d ++ [v.d] := by
        unfold valI
        rw [hI, ← List.take_append_getElem c, ← hpp]
        simp only [List.map_append, List.map_cons, List.map_nil, hgd]
      have hln : ((valI ys (il.take i)).map V.d).length ≤ 4096 := by unfold valI; simp; omega
      obtain ⟨o2, h2, ha, hg2⟩ := hg.app 40 [v.d] (by simp only [List.length_cons, List.length_nil]; omega)
      rw [← e] at hg2
      have hIH := ih I h2 o2 (by omega) (by omega) hg2
      have hb' := pre_get hg.1 hb
      have hw := hg.vw
      have y1 : ∀ h, eltL [v.d] h = some ([v.d], h) := fun _ => rfl
      have y2 : Wc 4 v.d := by simp [Wc, DV.cells, V.d, DV.one]
      have y3 : Nr v.d := v.nr
      have y4 : ∀ h, srcOf h 4 (.list 4 [v.d] true) = some [v.d] := fun _ => rfl
      have hs : C X lp18_0 [(1, .ref b 0), (5, o), (15, R), (16, .int .i64 il.length), (17, .int .i64 i)] h = some (.norm, [(1, .ref b 0), (5, o2), (15, R), (16, .int .i64 il.length), (17, .int .i64 I)], h2) := by
        clear ih hIH hg hg2 e hln hb hgd
        generalize (valI ys (il.take i)).map V.d = cur at *
        obtain ⟨vk, vn, vs', vt⟩ := v
        simp only [V.d] at *
        unfold lp18_0
        (repeat (first | rw [Zj] | rw [Zc (by simp [go_sem, c, z1, hR, hD, hpp', hpi, hpl, hvp, hv', hb', y1, y2, y3, y4, hw, ha, ZZ]; exact ⟨rfl, rfl⟩)] | rw [Zx (by simp [lk, Za, Od.v, c, z1, hR, hD, hpp', hpi, hpl, hvp, hv', hb', y1, y2, y3, y4, hw, ha, ZZ]; exact rfl)] | rw [Zn] | rw [Zm] | rw [Zo] | rw [ZA] | rw [Zr] | rw [Zw] | rw [Zq] | rw [Zp] | rw [Zk] | rw [Zg] | rw [Zh] | rw [Zd (by decide)] | rw [Zi] | rw [Ze] | rw [Zf] | rw [Zb (by decide)] | rw [ZB] | rw [Zt (by simp [go_sem, c, z1, hR, hD, hpp', hpi, hpl, hvp, hv', hb', y1, y2, y3, y4, hw, ha, ZZ]; exact ⟨rfl, rfl⟩)] | rw [Zy (by simp [lk, Za, Od.v, c, z1, hR, hD, hpp', hpi, hpl, hvp, hv', hb', y1, y2, y3, y4, hw, ha, ZZ]; exact rfl)] | rw [Zz]))
        simp [Za, lk]
      rw [Yl, hs, Yy]
      exact hIH
    · exact ih i h o (by omega) hi hg
open Classical in
/-- The values that a column tells: none, if it may not be. -/
noncomputable def vlC (n : Int) (ys : List V) (bs : List Nat) : List V := if okC n ys bs then valI ys (idsN bs (wC ys.length) n.toNat) else []
theorem run16 {H : ZQ} {n : Int} {D B : DV} {ys : List V} {bs : List Nat} (hD : ValL D ys) (hyb : ys.length ≤ 200) (hsm : ∀ x ∈ ys, Sm x) (hB : BytesL B bs) (bb : BB bs) (hbb : bs.length ≤ 10000) :
    ∃ d, E X 16 [colD n D B] H = some (d, H) ∧ ValD d (vlC n ys bs) := by
  obtain ⟨H1, hH1⟩ : ∃ H1, H1 = H ++ [HO.box 41 [.int .i64 n, D, B]] := ⟨_, rfl⟩
  have hb1 : H1[H.length]? = some (.box 41 [.int .i64 n, D, B]) := by rw [hH1]; simp
  have ht1 : H1.take H.length = H := by rw [hH1, List.take_append_of_le_length (Nat.le_refl _)]; exact List.take_length
  obtain ⟨R, e15, hR⟩ := run15 (H := H1) (n := n) hD hyb hsm hB bb hbb
  have hDv := hD.vw
  have key : ∀ il : List Nat, (∀ g, vw g 1 R = some (il.map iD)) → il.length ≤ 4096 → (∀ p ∈ il, p < ys.length) → ∃ d, E X 16 [colD n D B] H = some (d, H) ∧ ValD d (valI ys il) := by
    intro il hRv hl hlt
    obtain ⟨ex, h2, o2, hc, hg⟩ := loop16 hb1 hDv hRv hl hlt il.length 0 H1 .nils (by omega) (by omega) Gro.zero
    rw [show ((0 : Nat) : Int) = 0 from rfl] at hc
    obtain ⟨d, hfin, hd⟩ := (hg.base ht1).valD
    refine ⟨d, ?_, hd⟩
    clear hg hd hlt hR ht1
    obtain ⟨ok, e15⟩ : ∃ ok, E X 15 [colD n D B] H1 = some (.tup [R, .bool ok], H1) := ⟨_, e15⟩
    subst hH1
    rw [Yg (X := X) _ b16 _ rfl rfl]; unfold b16
    (repeat (first | rw [Zj] | rw [Zc (by simp [go_sem, e15]; exact ⟨rfl, rfl⟩)] | rw [Zx (by simp [lk, Za, Od.v, e15]; exact rfl)] | rw [Zn] | rw [Zm] | rw [Zo] | rw [ZA] | rw [Zr] | rw [Zw] | rw [Zq] | rw [Zp] | rw [Zk] | rw [Zg] | rw [Zh] | rw [Zd (by decide)] | rw [Zi] | rw [Ze] | rw [Zf] | rw [Zb (by decide)] | rw [ZB] | rw [Zt (by simp [go_sem, e15]; exact ⟨rfl, rfl⟩)] | rw [Zy (by simp [lk, Za, Od.v, e15]; exact rfl)] | rw [Zz]))
    (try simp only [Za, List.map_cons, List.map_nil, lk, reduceIte, Nat.reduceEqDiff, Nat.zero_ne_one, Nat.one_ne_zero])
    rw [hc]
    (repeat (first | rw [Zj] | rw [Zc (by simp [go_sem]; exact ⟨rfl, rfl⟩)] | rw [Zx (by simp [lk, Za, Od.v]; exact rfl)] | rw [Zn] | rw [Zm] | rw [Zo] | rw [ZA] | rw [Zr] | rw [Zw] | rw [Zq] | rw [Zp] | rw [Zk] | rw [Zg] | rw [Zh] | rw [Zd (by decide)] | rw [Zi] | rw [Ze] | rw [Zf] | rw [Zb (by decide)] | rw [ZB] | rw [Zt (by simp [go_sem]; exact ⟨rfl, rfl⟩)] | rw [Zy (by simp [lk, Za, Od.v]; exact rfl)] | rw [Zz]))
    simp only [Zs, Yc, lk, Za, List.map_cons, List.map_nil, reduceIte, Option.map_some, Nat.reduceEqDiff, hfin]
  rcases hR with ⟨hok, hR⟩ | ⟨hok, hR⟩
  · have hv : vlC n ys bs = valI ys (idsN bs (wC ys.length) n.toNat) := by unfold vlC; rw [if_pos hok]
    rw [hv]
    refine key _ (fun g => ?_) (by rw [idsN_len]; have := hok.2.1; omega) hok.2.2.2.2.1
    rcases hR with ⟨rfl, h0⟩ | rfl
    · rw [h0]; rfl
    · rfl
  · have hv : vlC n ys bs = valI ys [] := by unfold vlC; rw [if_neg hok]; rfl
    rw [hv]
    exact key [] (fun g => by rw [hR]; rfl) (by simp) (by simp)
theorem run18 {H : ZQ} {n : Int} {D B : DV} {ys : List V} {bs : List Nat} (hD : ValL D ys) (hyb : ys.length ≤ 200) (hB : BytesL B bs) (bb : BB bs) :
    ∃ d, E X 18 [colD n D B] H = some (d, H) ∧ ValD d (vlC n ys bs) := by
  obtain ⟨H1, hH1⟩ : ∃ H1, H1 = H ++ [HO.box 41 [.int .i64 n, D, B]] := ⟨_, rfl⟩
  have hb1 : H1[H.length]? = some (.box 41 [.int .i64 n, D, B]) := by rw [hH1]; simp
  have ht1 : H1.take H.length = H := by rw [hH1, List.take_append_of_le_length (Nat.le_refl _)]; exact List.take_length
  have hDv := hD.vw
  by_cases hok : okC n ys bs
  · have hv : vlC n ys bs = valI ys (idsN bs (wC ys.length) n.toNat) := by unfold vlC; rw [if_pos hok]
    rw [hv]
    obtain ⟨hn, hC⟩ := hok.col hD (by omega) hB bb
    obtain ⟨R, e45, hRv⟩ := run45c hC H1
    rw [← hn] at e45
    have hlt := hok.2.2.2.2.1
    have hl : (idsN bs (wC ys.length) n.toNat).length ≤ 4096 := by rw [idsN_len]; have := hok.2.1; omega
    generalize idsN bs (wC ys.length) n.toNat = il at *
    obtain ⟨ex, h2, o2, hc, hg⟩ := loop18 hb1 hDv hRv hl hlt il.length 0 H1 .nils (by omega) (by omega) Gro.zero
    rw [show ((0 : Nat) : Int) = 0 from rfl] at hc
    obtain ⟨d, hfin, hd⟩ := (hg.base ht1).valD
    refine ⟨d, ?_, hd⟩
    clear hg hd hlt ht1 hC hok hv hn
    subst hH1
    rw [Yg (X := X) _ b18 _ rfl rfl]; unfold b18
    (repeat (first | rw [Zj] | rw [Zc (by simp [go_sem, e45, hRv]; exact ⟨rfl, rfl⟩)] | rw [Zx (by simp [lk, Za, Od.v, e45, hRv]; exact rfl)] | rw [Zn] | rw [Zm] | rw [Zo] | rw [ZA] | rw [Zr] | rw [Zw] | rw [Zq] | rw [Zp] | rw [Zk] | rw [Zg] | rw [Zh] | rw [Zd (by decide)] | rw [Zi] | rw [Ze] | rw [Zf] | rw [Zb (by decide)] | rw [ZB] | rw [Zt (by simp [go_sem, e45, hRv]; exact ⟨rfl, rfl⟩)] | rw [Zy (by simp [lk, Za, Od.v, e45, hRv]; exact rfl)] | rw [Zz]))
    (try simp only [Za, List.map_cons, List.map_nil, lk, reduceIte, Nat.reduceEqDiff, Nat.zero_ne_one, Nat.one_ne_zero])
    rw [hc]
    (repeat (first | rw [Zj] | rw [Zc (by simp [go_sem]; exact ⟨rfl, rfl⟩)] | rw [Zx (by simp [lk, Za, Od.v]; exact rfl)] | rw [Zn] | rw [Zm] | rw [Zo] | rw [ZA] | rw [Zr] | rw [Zw] | rw [Zq] | rw [Zp] | rw [Zk] | rw [Zg] | rw [Zh] | rw [Zd (by decide)] | rw [Zi] | rw [Ze] | rw [Zf] | rw [Zb (by decide)] | rw [ZB] | rw [Zt (by simp [go_sem]; exact ⟨rfl, rfl⟩)] | rw [Zy (by simp [lk, Za, Od.v]; exact rfl)] | rw [Zz]))
    simp only [Zs, Yc, lk, Za, List.map_cons, List.map_nil, reduceIte, Option.map_some, Nat.reduceEqDiff, hfin]
  · have hv : vlC n ys bs = [] := by unfold vlC; rw [if_neg hok]
    rw [hv]
    obtain ⟨R, il, e45, _⟩ := run45f (H := H1) (n := n) hD (by omega) hB bb hok
    refine ⟨.nils, ?_, .inl ⟨rfl, rfl⟩⟩
    subst hH1
    clear hok hv
    rw [Yg (X := X) _ b18 _ rfl rfl]; unfold b18; (repeat (first | rw [Zj] | rw [Zc (by simp [go_sem, e45]; exact ⟨rfl, rfl⟩)] | rw [Zx (by simp [lk, Za, Od.v, e45]; exact rfl)] | rw [Zn] | rw [Zm] | rw [Zo] | rw [ZA] | rw [Zr] | rw [Zw] | rw [Zq] | rw [Zp] | rw [Zk] | rw [Zg] | rw [Zh] | rw [Zd (by decide)] | rw [Zi] | rw [Ze] | rw [Zf] | rw [Zb (by decide)] | rw [ZB] | rw [Zt (by simp [go_sem, e45]; exact ⟨rfl, rfl⟩)] | rw [Zy (by simp [lk, Za, Od.v, e45]; exact rfl)] | rw [Zz])); simp [Zs, ZC, Yc, go_sem, fin, YD, YC, YG, YF, YI, e45]
def rowD (r : List V) : DV := .list 4 (r.map V.d) false
def RowsD (d : DV) (rs : List (List V)) : Prop := (d = .nils ∧ rs = []) ∨ d = .fresh 38 1 (rs.map rowD)
theorem rowD_nr (r : List V) : Nr (rowD r) := .list (nr_vals r)
theorem nr_rows (rs : List (List V)) : ∀ x ∈ rs.map rowD, Nr x := fun x hx => by
  obtain ⟨v, _, rfl⟩ := List.mem_map.1 hx
  exact rowD_nr v
theorem Gro.rowsD {H h : ZQ} {d : DV} {rs : List (List V)} (hg : Gro 38 1 H h d (rs.map rowD)) : ∃ R, Go.Proofs.YtojhkbbnkhfnhaaDoor.fin H h [d] = (R, H) ∧ RowsD R rs := by
  rcases hg.fin (nr_rows rs) with ⟨rfl, h1⟩ | ⟨_, h1⟩
  · refine ⟨_, h1, .inl ⟨rfl, ?_⟩⟩
    rcases hg.2 with ⟨_, h2⟩ | ⟨g, o, h2, _⟩
    · simpa using h2
    · cases h2
  · exact ⟨_, h1, .inr rfl⟩
theorem rowsL_map (rs : List (List V)) : RowsL (rs.map rowD) rs := by
  refine ⟨by simp, fun i d vs h1 h2 => ?_⟩
  rw [List.getElem?_map, h2] at h1
  injection h1 with h1
  exact .inl ⟨false, h1.symm⟩
theorem rowV_vw {h : ZQ} {r g t n : Nat} {xs : List V} (h1 : h[r]? = some (.row t 4 g (xs.map V.d))) (hn : xs.length = n) : vw h 4 (.row r g 0 n false) = some (xs.map V.d) := by
  subst hn; simp [vw, h1, List.take_of_length_le]
theorem rowV_wr {h : ZQ} {r g t n : Nat} {xs : List V} (h1 : h[r]? = some (.row t 4 g (xs.map V.d))) (hn : xs.length = n) {i : Nat} (hi : i < n) (v : V) : stx h 4 (.elem (.row r g 0 n false) 4 i 0) (.agg [.int .i64 v.k, .int .i64 v.n, .str v.s, .bool v.t]) = some (h.set r (.row t 4 g ((xs.set i v).map V.d))) := by
  subst hn
  have h2 : (xs.map V.d)[i]? = some (xs[i].d) := by simp [List.getElem?_eq_getElem hi]
  rw [stx, if_pos (by simp [DV.cells, DV.one])]
  simp only [h1]
  rw [if_pos (by simp [hi])]
  simp only [Nat.zero_add, h2]
  simp [eput, DV.cells, splice, List.map_set]
theorem rep_set (k : Nat) (v : V) : (List.replicate (k + 1) v0).set k v = List.replicate k v0 ++ [v] := by
  rw [List.replicate_succ', List.set_append_right _ _ (by simp)]
  simp
theorem loop73 {Hb : ZQ} {L : DV} {vs : List V} {k : Nat} (hL : vw Hb 4 L = some (vs.map V.d)) (hk : k ≤ 1000) (hv : vs.length ≤ 5000) :
    ∀ (m i : Nat) (h : ZQ) (o : DV), vs.length - i ≤ m → i ≤ vs.length → Gro 38 1 Hb h o ((Ys (vs.take i) k).map rowD) → ∃ ex h' o', C X (.loop lp73_0) [(1, .int .i64 k), (5, o), (9, L), (10, .int .i64 vs.length), (11, .int .i64 i)] h = some (.exit 0, (1, .int .i64 k) :: (5, o') :: ex, h') ∧ Gro 38 1 Hb h' o' ((Ys vs k).map rowD) := by
  intro m
  induction m with
  | zero =>
    intro i h o hm hi hg
    obtain rfl : i = vs.length := by omega
    refine ⟨[(9, L), (10, .int .i64 vs.length), (11, .int .i64 vs.length), (12, .bool false)], h, o, ?_, by rw [List.take_length] at hg; exact hg⟩
    rw [Yl]
    unfold lp73_0
    (repeat (first | rw [Zj] | rw [Zc (by simp [go_sem]; exact ⟨rfl, rfl⟩)] | rw [Zx (by simp [lk, Za, Od.v]; exact rfl)] | rw [Zn] | rw [Zm] | rw [Zo] | rw [ZA] | rw [Zr] | rw [Zw] | rw [Zq] | rw [Zp] | rw [Zk] | rw [Zg] | rw [Zh] | rw [Zd (by decide)] | rw [Zi] | rw [Ze] | rw [Zf] | rw [Zb (by decide)] | rw [ZB] | rw [Zt (by simp [go_sem]; exact ⟨rfl, rfl⟩)] | rw [Zy (by simp [lk, Za, Od.v]; exact rfl)] | rw [Zz]))
    rw [YB]
    simp [Za, lk]
  | succ m ih =>
    intro i h o hm hi hg
    by_cases c : i < vs.length
    · obtain ⟨I, hI⟩ : ∃ I, I = i + 1 := ⟨_, rfl⟩
      have z1 : IntKind.i64.wrap ((i : Int) + 1) = (I : Int) := (by rw [wrap64 _ (by omega) (by omega)]; omega)
      obtain ⟨K, hK⟩ : ∃ K, K = k + 1 := ⟨_, rfl⟩
      have z2 : IntKind.i64.wrap ((k : Int) + 1) = (K : Int) := (by rw [wrap64 _ (by omega) (by omega)]; omega)
      obtain ⟨v, hvv⟩ : ∃ v, v = vs[i] := ⟨_, rfl⟩
      have hv' := hvv.symm
      have hvi : vs[i]? = some v := by rw [List.getElem?_eq_getElem c, hvv]
      obtain ⟨r, hr⟩ : ∃ r, r = List.replicate k v0 ++ [v] := ⟨_, rfl⟩
      have hrl : r.length = K := by rw [hr, hK]; simp
      have hrs : (List.replicate K v0).set k v = r := by rw [hr, hK]; exact rep_set k v
      have e : (Ys (vs.take I) k).map rowD = (Ys (vs.take i) k).map rowD ++ [rowD r] := by
        unfold Ys
        rw [hI, ← List.take_append_getElem c, ← hvv, hr]
        simp only [List.map_append, List.map_cons, List.map_nil]
      have hln : ((Ys (vs.take i) k).map rowD).length ≤ 5000 := by unfold Ys; simp; omega
      have hge := hg.ext [.box 48 v.d.cells, .frz 48 4 0 (r.map V.d)]
      obtain ⟨o2, h2, ha, hg2⟩ := hge.app 24 [rowD r] (by simp only [List.length_cons, List.length_nil]; omega)
      rw [← e] at hg2
      have hIH := ih I h2 o2 (by omega) (by omega) hg2
      have hw := hge.vw
      have hLh := pre_vw hg.1 hL
      have hz : (List.replicate K v0).map V.d = List.replicate K (.agg [.int .i64 0, .int .i64 0, .str ⟨#[]⟩, .bool false]) := by rw [List.map_replicate]; rfl
      have hz1 : (h ++ [HO.box 48 v.d.cells, .row 48 4 0 (List.replicate K (.agg [.int .i64 0, .int .i64 0, .str ⟨#[]⟩, .bool false]))])[h.length + 1]? = some (.row 48 4 0 ((List.replicate K v0).map V.d)) := by rw [hz]; simp [hget]
      have r1 := rowV_vw hz1 (n := K) (by simp)
      have r2 := rowV_wr hz1 (n := K) (by simp) (i := k) (by omega) v
      rw [hrs] at r2
      have hs2 : (h ++ [HO.box 48 v.d.cells, .row 48 4 0 (List.replicate K (.agg [.int .i64 0, .int .i64 0, .str ⟨#[]⟩, .bool false]))]).set (h.length + 1) (.row 48 4 0 (r.map V.d)) = h ++ [HO.box 48 v.d.cells, .row 48 4 0 (r.map V.d)] := by simp [Yh]
      rw [hs2] at r2
      have y1 : eltL [.row (h.length + 1) 0 0 K false] (h ++ [HO.box 48 v.d.cells, .row 48 4 0 (r.map V.d)]) = some ([.list 4 (r.map V.d) false], h ++ [HO.box 48 v.d.cells, .frz 48 4 0 (r.map V.d)]) := by
        have q1 : (h ++ [HO.box 48 v.d.cells, .row 48 4 0 (r.map V.d)])[h.length + 1]? = some (.row 48 4 0 (r.map V.d)) := by simp [hget]
        have q2 : ∀ x ∈ r.map V.d, Nr x := nr_vals r
        simp only [eltL, eltOf, roOf, q1]
        rw [if_pos ⟨rfl, by rw [List.length_map, hrl]; omega, q2⟩]
        simp only [List.drop_zero]
        rw [List.take_of_length_le (by rw [List.length_map, hrl]; omega)]
        simp [Yh]
      have y2 : Wc 1 (.list 4 (r.map V.d) false) := by simp [Wc, DV.cells, DV.one]
      have y3 : Nr (.list 4 (r.map V.d) false) := rowD_nr r
      have y4 : ∀ h, srcOf h 1 (.list 1 [.list 4 (r.map V.d) false] true) = some [.list 4 (r.map V.d) false] := fun _ => rfl
      have wz : Wc 4 (.agg [.int .i64 0, .int .i64 0, .str ⟨#[]⟩, .bool false]) := by simp [Wc, DV.cells, DV.one]
      have m0 : (0 : Int) ≤ (K : Int) := by omega
      have m1 : (K : Int) * 40 ≤ 140737488355328 := by omega
      have hkK : k < K := by omega
      have ha : appx (h ++ [HO.box 48 v.d.cells, .frz 48 4 0 (r.map V.d)]) 38 1 24 o ((Ys (vs.take i) k).map rowD) [.list 4 (r.map V.d) false] = some (o2, h2) := ha
      have hs : C X lp73_0 [(1, .int .i64 k), (5, o), (9, L), (10, .int .i64 vs.length), (11, .int .i64 i)] h = some (.norm, [(1, .int .i64 k), (5, o2), (9, L), (10, .int .i64 vs.length), (11, .int .i64 I)], h2) := by
        have hrL : (r.map V.d).length = K := by rw [List.length_map]; exact hrl
        rw [hz] at r1
        clear ih hIH hg hge hg2 e hln hr hrs hz hz1 hs2 hI hrl
        generalize (Ys (vs.take i) k).map rowD = cur at *
        generalize r.map V.d = R at *
        generalize hzz : List.replicate K (DV.agg [.int .i64 0, .int .i64 0, .str ⟨#[]⟩, .bool false]) = Z at *
        have hZl : Z.length = K := by rw [← hzz]; simp
        have hkK' : (k : Int) < (K : Int) := by omega
        obtain ⟨vk, vn, vs', vt⟩ := v
        simp only [V.d, DV.cells] at *
        unfold lp73_0
        (repeat (first | rw [Zj] | rw [Zc (by simp [go_sem, c, z1, z2, hLh, hv', hvi, r1, r2, y1, y2, y3, y4, wz, m0, m1, hkK, hkK', hZl, hw, ha, hzz, ZZ]; exact ⟨rfl, rfl⟩)] | rw [Zx (by simp [lk, Za, Od.v, c, z1, z2, hLh, hv', hvi, r1, r2, y1, y2, y3, y4, wz, m0, m1, hkK, hkK', hZl, hw, ha, hzz, ZZ]; exact rfl)] | rw [Zn] | rw [Zm] | rw [Zo] | rw [ZA] | rw [Zr] | rw [Zw] | rw [Zq] | rw [Zp] | rw [Zk] | rw [Zg] | rw [Zh] | rw [Zd (by decide)] | rw [Zi] | rw [Ze] | rw [Zf] | rw [Zb (by decide)] | rw [ZB] | rw [Zt (by simp [go_sem, c, z1, z2, hLh, hv', hvi, r1, r2, y1, y2, y3, y4, wz, m0, m1, hkK, hkK', hZl, hw, ha, hzz, ZZ]; exact ⟨rfl, rfl⟩)] | rw [Zy (by simp [lk, Za, Od.v, c, z1, z2, hLh, hv', hvi, r1, r2, y1, y2, y3, y4, wz, m0, m1, hkK, hkK', hZl, hw, ha, hzz, ZZ]; exact rfl)] | rw [Zz]))
        simp [Za, lk]
      rw [Yl, hs, Yy]
      exact hIH
    · exact ih i h o (by omega) hi hg
theorem run73 {H : ZQ} {L : DV} {vs : List V} {k : Nat} (hL : vw H 4 L = some (vs.map V.d)) (hk : k ≤ 1000) (hv : vs.length ≤ 5000) : ∃ d, E X 73 [L, .int .i64 k] H = some (d, H) ∧ RowsD d (Ys vs k) := by
  obtain ⟨ex, h2, o2, hc, hg⟩ := loop73 hL hk hv vs.length 0 H .nils (by omega) (by omega) Gro.zero
  rw [show ((0 : Nat) : Int) = 0 from rfl] at hc
  obtain ⟨d, hfin, hd⟩ := hg.rowsD
  refine ⟨d, ?_, hd⟩
  clear hg hd
  rw [Yg (X := X) _ b73 _ rfl rfl]; unfold b73
  (repeat (first | rw [Zj] | rw [Zc (by simp [go_sem, hL]; exact ⟨rfl, rfl⟩)] | rw [Zx (by simp [lk, Za, Od.v, hL]; exact rfl)] | rw [Zn] | rw [Zm] | rw [Zo] | rw [ZA] | rw [Zr] | rw [Zw] | rw [Zq] | rw [Zp] | rw [Zk] | rw [Zg] | rw [Zh] | rw [Zd (by decide)] | rw [Zi] | rw [Ze] | rw [Zf] | rw [Zb (by decide)] | rw [ZB] | rw [Zt (by simp [go_sem, hL]; exact ⟨rfl, rfl⟩)] | rw [Zy (by simp [lk, Za, Od.v, hL]; exact rfl)] | rw [Zz]))
  (try simp only [Za, List.map_cons, List.map_nil, lk, reduceIte, Nat.reduceEqDiff, Nat.zero_ne_one, Nat.one_ne_zero])
  rw [hc]
  (repeat (first | rw [Zj] | rw [Zc (by simp [go_sem]; exact ⟨rfl, rfl⟩)] | rw [Zx (by simp [lk, Za, Od.v]; exact rfl)] | rw [Zn] | rw [Zm] | rw [Zo] | rw [ZA] | rw [Zr] | rw [Zw] | rw [Zq] | rw [Zp] | rw [Zk] | rw [Zg] | rw [Zh] | rw [Zd (by decide)] | rw [Zi] | rw [Ze] | rw [Zf] | rw [Zb (by decide)] | rw [ZB] | rw [Zt (by simp [go_sem]; exact ⟨rfl, rfl⟩)] | rw [Zy (by simp [lk, Za, Od.v]; exact rfl)] | rw [Zz]))
  simp only [Zs, Yc, lk, Za, List.map_cons, List.map_nil, reduceIte, Option.map_some, Nat.reduceEqDiff, hfin]
theorem run71 {H : ZQ} {D : DV} {ys : List V} (hD : ∀ g, vw g 4 D = some (ys.map V.d)) : E X 71 [D] H = some (.tup [.int .i64 0, .int .i64 (Ym ys : Nat)], H) := by
  cases ys with
  | nil => rw [Yg (X := X) _ b71 _ rfl rfl]; unfold b71; (repeat (first | rw [Zj] | rw [Zc (by simp [go_sem, hD, Ym]; exact ⟨rfl, rfl⟩)] | rw [Zx (by simp [lk, Za, Od.v, hD, Ym]; exact rfl)] | rw [Zn] | rw [Zm] | rw [Zo] | rw [ZA] | rw [Zr] | rw [Zw] | rw [Zq] | rw [Zp] | rw [Zk] | rw [Zg] | rw [Zh] | rw [Zd (by decide)] | rw [Zi] | rw [Ze] | rw [Zf] | rw [Zb (by decide)] | rw [ZB] | rw [Zt (by simp [go_sem, hD, Ym]; exact ⟨rfl, rfl⟩)] | rw [Zy (by simp [lk, Za, Od.v, hD, Ym]; exact rfl)] | rw [Zz])); simp [Zs, ZC, Yc, go_sem, fin, YD, YC, YG, YF, YI, hD, Ym]
  | cons y l =>
    obtain ⟨k, n, s, t⟩ := y
    have h1 : (0 : Int) < (l.length : Int) + 1 := by omega
    by_cases c : k = 0
    · subst c
      have hf : Ym ((⟨0, n, s, t⟩ : V) :: l) = 1 := rfl
      rw [hf]
      simp only [List.map_cons, V.d] at hD
      rw [Yg (X := X) _ b71 _ rfl rfl]; unfold b71; (repeat (first | rw [Zj] | rw [Zc (by simp [go_sem, hD, h1, ZZ]; exact ⟨rfl, rfl⟩)] | rw [Zx (by simp [lk, Za, Od.v, hD, h1, ZZ]; exact rfl)] | rw [Zn] | rw [Zm] | rw [Zo] | rw [ZA] | rw [Zr] | rw [Zw] | rw [Zq] | rw [Zp] | rw [Zk] | rw [Zg] | rw [Zh] | rw [Zd (by decide)] | rw [Zi] | rw [Ze] | rw [Zf] | rw [Zb (by decide)] | rw [ZB] | rw [Zt (by simp [go_sem, hD, h1, ZZ]; exact ⟨rfl, rfl⟩)] | rw [Zy (by simp [lk, Za, Od.v, hD, h1, ZZ]; exact rfl)] | rw [Zz])); simp [Zs, ZC, Yc, go_sem, fin, YD, YC, YG, YF, YI, hD, h1, ZZ]
    · have hf : Ym ((⟨k, n, s, t⟩ : V) :: l) = 0 := by simp [Ym, c]
      have c' : (k == 0) = false := by simpa using c
      rw [hf]
      simp only [List.map_cons, V.d] at hD
      rw [Yg (X := X) _ b71 _ rfl rfl]; unfold b71; (repeat (first | rw [Zj] | rw [Zc (by simp [go_sem, hD, h1, c, c', ZZ]; exact ⟨rfl, rfl⟩)] | rw [Zx (by simp [lk, Za, Od.v, hD, h1, c, c', ZZ]; exact rfl)] | rw [Zn] | rw [Zm] | rw [Zo] | rw [ZA] | rw [Zr] | rw [Zw] | rw [Zq] | rw [Zp] | rw [Zk] | rw [Zg] | rw [Zh] | rw [Zd (by decide)] | rw [Zi] | rw [Ze] | rw [Zf] | rw [Zb (by decide)] | rw [ZB] | rw [Zt (by simp [go_sem, hD, h1, c, c', ZZ]; exact ⟨rfl, rfl⟩)] | rw [Zy (by simp [lk, Za, Od.v, hD, h1, c, c', ZZ]; exact rfl)] | rw [Zz])); simp [Zs, ZC, Yc, go_sem, fin, YD, YC, YG, YF, YI, hD, h1, c, c', ZZ]
end Go.Proofs.YtojhkbbnkhfnhaaDoor
