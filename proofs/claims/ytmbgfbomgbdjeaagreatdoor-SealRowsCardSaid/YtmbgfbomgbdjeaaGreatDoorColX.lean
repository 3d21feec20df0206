/- Ideal runs: a node's rows in a sealed segment. Ideal runs: filter.Sealed; light segments. Ideal runs: the document's rows of a segment (winnowerref12.Row, Rows), its filters (winnowerref17.Sealed); light segments. Ideal runs: filters of segments as the document says (winnowerref17.Sealed); light segments; FilterSeals. Ideal runs: light segments; FilterSeals. -/
import Derived.Test.YtmbgfbomgbdjeaaGreatDoorStep
import Derived.Test.YtmbgfbomgbdjeaaGreatDoorColT
import Derived.Test.YtmbgfbomgbdjeaaGreatDoorNod
import Derived.Test.YtmbgfbomgbdjeaaGreatDoorPlainQ
import Derived.Test.YtmbgfbomgbdjeaaGreatDoorPlainB
namespace Go.Proofs.YtmbgfbomgbdjeaaGreatDoor
attribute [local go_sem] ZJ ZE ZD ZF Zt Zh Zr Zk Zm Ze Zf Zl Zu Zv ZG Zs Zi ZC Zx Zw ZV ZA Yo put lk Od.v Za Zg Zo rdc Yd Ye Yc unx eqk DV.isU DV.cells hget ZP Yb ZO Zq splice ZQ mat ZW eqs one_bool one_int one_str one_nilp one_ref one_elem one_nils one_list one_row one_nilm one_map one_nilf one_func one_nili one_ifc one_agg one_tup Yx Yy
attribute [local go_sem ↓] Zj
set_option linter.unusedVariables false
set_option linter.unusedSimpArgs false
set_option maxRecDepth 10000
/-- A column as an argument. -/
structure RC where
  n : Int
  ys : List V
  bs : List Nat
  D : DV
  B : DV
def RC.d (c : RC) : DV := colD c.n c.D c.B
structure RC.Ok (c : RC) : Prop where
  dict : ValL c.D c.ys
  yl : c.ys.length ≤ 200
  sm : ∀ x ∈ c.ys, Sm x
  bytes : BytesL c.B c.bs
  bb : BB c.bs
  bl : c.bs.length ≤ 200
/-- A column that may be, of so many rows. -/
structure RC.May (n : Nat) (c : RC) : Prop where
  ok : c.Ok
  may : okC c.n c.ys c.bs
  len : c.n = (n : Int)
def RC.sc (c : RC) : SC := ⟨c.ys, idsN c.bs (wC c.ys.length) c.n.toNat⟩
theorem RC.May.col {n : Nat} {c : RC} (h : c.May n) : ColOk n c.D c.B c.ys c.sc.il := by
  have := (h.may.col h.ok.dict (by have := h.ok.yl; omega) h.ok.bytes h.ok.bb).2
  rw [h.len, Int.toNat_natCast] at this
  unfold RC.sc
  rw [h.len, Int.toNat_natCast]
  exact this
theorem RC.May.scOk {n : Nat} {c : RC} (h : c.May n) : c.sc.Ok n := by
  have hc := h.col
  exact ⟨hc.up, hc.may, hc.len, fun p hp => (hc.mem p).1 hp⟩
theorem RC.May.vals {n : Nat} {c : RC} (h : c.May n) : vlC c.n c.ys c.bs = valsS c.sc n := by
  have hv : vlC c.n c.ys c.bs = valI c.ys (idsN c.bs (wC c.ys.length) c.n.toNat) := by unfold vlC; rw [if_pos h.may]
  rw [hv]
  have hl := h.col.len
  unfold valsS valI
  have e : c.sc.il = idsN c.bs (wC c.ys.length) c.n.toNat := rfl
  rw [← e]
  apply List.ext_getElem
  · simp [hl]
  · intro i h1 h2
    simp only [List.getElem_map, List.getElem_range, SC.val]
    have hi : i < c.sc.il.length := by simpa using h1
    have : c.sc.il.getD i 0 = c.sc.il[i] := by rw [List.getD_eq_getElem?_getD, List.getElem?_eq_getElem hi]; rfl
    rw [this]
    rfl
theorem BytesL.one' {R : DV} {bs : List Nat} (h : BytesL R bs) : R.one = true := by
  rcases h with ⟨rfl, _⟩ | rfl <;> rfl
/-- Rows that are told, each on its own. -/
def RowsE (es : List DV) (rs : List (List V)) : Prop := RowsL es rs ∧ ∀ x ∈ es, Nr x
theorem RowsE.snoc {es : List DV} {rs : List (List V)} (h : RowsE es rs) {e : DV} {r : List V} (he : RowL e r) : RowsE (es ++ [e]) (rs ++ [r]) := by
  refine ⟨⟨by simp [h.1.1], fun i d vs h1 h2 => ?_⟩, fun x hx => ?_⟩
  · by_cases c : i < es.length
    · rw [List.getElem?_append_left c] at h1
      rw [List.getElem?_append_left (by rw [← h.1.1]; exact c)] at h2
      exact h.1.2 i d vs h1 h2
    · have hl := h.1.1
      have hi : i = es.length := by
        have := (List.getElem?_eq_some_iff.1 h1).1
        rw [List.length_append, List.length_cons, List.length_nil] at this; omega
      subst hi
      rw [List.getElem?_append_right (Nat.le_refl _), Nat.sub_self] at h1
      rw [hl, List.getElem?_append_right (Nat.le_refl _), Nat.sub_self] at h2
      injection h1 with h1
      injection h2 with h2
      rw [← h1, ← h2]; exact he
  · rcases List.mem_append.1 hx with hx | hx
    · exact h.2 x hx
    · rw [List.mem_singleton] at hx
      rw [hx]; exact he.nr
/-- A column as an argument, of any size. -/
structure RC.Raw (c : RC) : Prop where
  dict : ValL c.D c.ys
  sm : ∀ x ∈ c.ys, Sm x
  bytes : BytesL c.B c.bs
  bb : BB c.bs
theorem loop43 {h : Zb} {n : Int} {D B : DV} {ys : List V} {b : Nat} (hb : h[b]? = some (.box 70 [.int .i64 n, D, B])) (hD : ∀ g, vw g 4 D = some (ys.map V.d)) (hl : ys.length ≤ 1000) :
    ∀ (m i : Nat), ys.length - i ≤ m → i ≤ ys.length → (∃ ex, C X (.loop lp43_0) [(1, .ref b 0), (3, .int .i64 i)] h = some (.exit 0, ex, h)) ∨ C X (.loop lp43_0) [(1, .ref b 0), (3, .int .i64 i)] h = some (.ret, [(2, .bool false)], h) := by
  intro m
  induction m with
  | zero =>
    intro i hm hi
    obtain rfl : i = ys.length := by omega
    left
    rw [Zc]
    unfold lp43_0
    refine rn0 (fA2 @hD @hb) ?_
    rw [Zz]
    exact ⟨_, rfl⟩
  | succ m ih =>
    intro i hm hi
    by_cases c : i < ys.length
    · obtain ⟨I, hI⟩ : ∃ I, I = i + 1 := ⟨_, rfl⟩
      have z1 : IntKind.i64.wrap ((i : Int) + 1) = (I : Int) := (by rw [wrap64 _ (by omega) (by omega)]; omega)
      obtain ⟨v, hv⟩ : ∃ v, v = ys[i] := ⟨_, rfl⟩
      have hv' := hv.symm
      have hvi : ys[i]? = some v := by rw [List.getElem?_eq_getElem c, hv]
      by_cases c3 : 300 < v.s.size
      · right
        have c3' : (300 : Int) < (v.s.size : Int) := by omega
        have hs : C X lp43_0 [(1, .ref b 0), (3, .int .i64 i)] h = some (.ret, [(2, .bool false)], h) := by
          clear ih
          obtain ⟨vk, vn, vs', vt⟩ := v
          simp only [V.d] at *
          unfold lp43_0
          refine rn0 (fA8 @c @z1 @hD @hv' @hvi @hb @c3 @c3') ?_
          simp [Za, lk]
        rw [Zc, hs, lp_ret]
      · have c3' : ¬ (300 : Int) < (v.s.size : Int) := by omega
        have hs : C X lp43_0 [(1, .ref b 0), (3, .int .i64 i)] h = some (.norm, [(1, .ref b 0), (3, .int .i64 I)], h) := by
          clear ih
          obtain ⟨vk, vn, vs', vt⟩ := v
          simp only [V.d] at *
          unfold lp43_0
          refine rn0 (fA8 @c @z1 @hD @hv' @hvi @hb @c3 @c3') ?_
          simp [Za, lk]
        rw [Zc, hs, ZI]
        exact ih I (by omega) (by omega)
    · exact ih i (by omega) hi
theorem run43 {H : Zb} {c : RC} (hc : c.Raw) : ∃ bb, E X 43 [c.d] H = some (.bool bb, H) ∧ (bb = true → c.Ok) := by
  have hDv := hc.dict.vw
  have hBv := hc.bytes.vw
  by_cases c1 : 200 < c.ys.length
  · refine ⟨false, ?_, fun h => by cases h⟩
    have c1' : (200 : Int) < (c.ys.length : Int) := by omega
    clear hc
    obtain ⟨cn, ys, bs, D, B⟩ := c
    simp only [RC.d] at *
    rw [ZB (X := X) _ b43 _ rfl rfl]; unfold b43; exact rg (fA4 @hDv @hBv @c1 @c1')
  have c1' : ¬ (200 : Int) < (c.ys.length : Int) := by omega
  by_cases c2 : 200 < c.bs.length
  · refine ⟨false, ?_, fun h => by cases h⟩
    have c2' : (200 : Int) < (c.bs.length : Int) := by omega
    clear hc
    obtain ⟨cn, ys, bs, D, B⟩ := c
    simp only [RC.d] at *
    rw [ZB (X := X) _ b43 _ rfl rfl]; unfold b43; exact rg (fA6 @hDv @hBv @c1 @c1' @c2 @c2')
  have c2' : ¬ (200 : Int) < (c.bs.length : Int) := by omega
  have hok : c.Ok := ⟨hc.dict, by omega, hc.sm, hc.bytes, hc.bb, by omega⟩
  obtain ⟨H1, hH1⟩ : ∃ H1, H1 = H ++ [HO.box 70 [.int .i64 c.n, c.D, c.B]] := ⟨_, rfl⟩
  have hb1 : H1[H.length]? = some (.box 70 [.int .i64 c.n, c.D, c.B]) := by rw [hH1]; simp
  have ht1 : H1.take H.length = H := by rw [hH1, List.take_append_of_le_length (Nat.le_refl _)]; exact List.take_length
  have hfin : ∀ r, fin H H1 [.bool r] = (.bool r, H) := fun r => by simp [fin, ht1, fz1, fz0]
  rcases loop43 hb1 hDv (by omega) c.ys.length 0 (by omega) (by omega) with ⟨ex, hl⟩ | hl
  · refine ⟨true, ?_, fun _ => hok⟩
    rw [show ((0 : Nat) : Int) = 0 from rfl] at hl
    clear hc hok hb1 ht1
    obtain ⟨cn, ys, bs, D, B⟩ := c
    simp only [RC.d] at *
    subst hH1
    rw [ZB (X := X) _ b43 _ rfl rfl]; unfold b43
    refine rn (fA6 @hDv @hBv @c1 @c1' @c2 @c2') ?_
    refine keG ?_
    rw [hl]
    refine rn trivial ?_
    simp only [Zn, ZY, lk, Za, List.map_cons, List.map_nil, reduceIte, Option.map_some, Nat.reduceEqDiff, hfin]
  · refine ⟨false, ?_, fun _ => hok⟩
    rw [show ((0 : Nat) : Int) = 0 from rfl] at hl
    clear hc hok hb1 ht1
    obtain ⟨cn, ys, bs, D, B⟩ := c
    simp only [RC.d] at *
    subst hH1
    rw [ZB (X := X) _ b43 _ rfl rfl]; unfold b43
    refine rn (fA6 @hDv @hBv @c1 @c1' @c2 @c2') ?_
    refine keG ?_
    rw [hl]
    refine rn trivial ?_
    simp only [Zn, ZY, lk, Za, List.map_cons, List.map_nil, reduceIte, Option.map_some, Nat.reduceEqDiff, hfin]
theorem loop19 {h : Zb} {Of Cs : DV} {p1 p2 p3 p4 : Int} {cs : List RC} {b : Nat} (hb : h[b]? = some (.box 28 [.int .i64 p1, .int .i64 p2, .int .i64 p3, .int .i64 p4, Of, Cs])) (hC : ∀ g, vw g 3 Cs = some (cs.map RC.d)) (hr : ∀ c ∈ cs, c.Raw) (hl : cs.length ≤ 1000) :
    ∀ (m i : Nat), cs.length - i ≤ m → i ≤ cs.length → ((∃ ex, C X (.loop lp19_0) [(1, .ref b 0), (3, .int .i64 i)] h = some (.exit 0, ex, h)) ∧ ∀ c ∈ cs.drop i, c.Ok) ∨ C X (.loop lp19_0) [(1, .ref b 0), (3, .int .i64 i)] h = some (.ret, [(2, .bool false)], h) := by
  intro m
  induction m with
  | zero =>
    intro i hm hi
    obtain rfl : i = cs.length := by omega
    refine .inl ⟨?_, by rw [List.drop_length]; intro c hc; cases hc⟩
    rw [Zc]
    unfold lp19_0
    refine rn0 (fA2 @hC @hb) ?_
    rw [Zz]
    exact ⟨_, rfl⟩
  | succ m ih =>
    intro i hm hi
    by_cases c : i < cs.length
    · obtain ⟨I, hI⟩ : ∃ I, I = i + 1 := ⟨_, rfl⟩
      have z1 : IntKind.i64.wrap ((i : Int) + 1) = (I : Int) := (by rw [wrap64 _ (by omega) (by omega)]; omega)
      obtain ⟨x, hx⟩ : ∃ x, x = cs[i] := ⟨_, rfl⟩
      have hge : cs[i].d = .agg [.int .i64 x.n, x.D, x.B] := by rw [← hx]; rfl
      obtain ⟨bb, e14, hbb⟩ := run43 (H := h) (hr x (by rw [hx]; exact List.getElem_mem c))
      have e14 : E X 43 [.agg [.int .i64 x.n, x.D, x.B]] h = some (.bool bb, h) := e14
      have hd : cs.drop i = x :: cs.drop I := by rw [List.drop_eq_getElem_cons c, ← hx, hI]
      cases bb
      · right
        have hs : C X lp19_0 [(1, .ref b 0), (3, .int .i64 i)] h = some (.ret, [(2, .bool false)], h) := by
          clear ih
          unfold lp19_0
          refine rn0 (fA6 @c @z1 @hC @hge @hb @e14) ?_
          simp [Za, lk]
        rw [Zc, hs, lp_ret]
      · have hs : C X lp19_0 [(1, .ref b 0), (3, .int .i64 i)] h = some (.norm, [(1, .ref b 0), (3, .int .i64 I)], h) := by
          clear ih
          unfold lp19_0
          refine rn0 (fA6 @c @z1 @hC @hge @hb @e14) ?_
          simp [Za, lk]
        rw [Zc, hs, ZI]
        rcases ih I (by omega) (by omega) with ⟨h1, h2⟩ | h1
        · refine .inl ⟨h1, fun q hq => ?_⟩
          rw [hd] at hq
          rcases List.mem_cons.1 hq with rfl | hq
          · exact hbb rfl
          · exact h2 q hq
        · exact .inr h1
    · exact ih i (by omega) hi
/-- A segment as an argument. -/
structure SegA (Of Cs : DV) (os : List DV) (cs : List RC) : Prop where
  o : ∀ g, vw g 1 Of = some os
  c : ∀ g, vw g 3 Cs = some (cs.map RC.d)
  raw : ∀ c ∈ cs, c.Raw
theorem run19 {H : Zb} {Of Cs : DV} {p1 p2 p3 p4 : Int} {os : List DV} {cs : List RC} (hS : SegA Of Cs os cs) : ∃ bb, E X 19 [.agg [.int .i64 p1, .int .i64 p2, .int .i64 p3, .int .i64 p4, Of, Cs]] H = some (.bool bb, H) ∧ (bb = true → os.length ≤ 200 ∧ cs.length ≤ 12 ∧ ∀ c ∈ cs, c.Ok) := by
  obtain ⟨hO, hC, hr⟩ := hS
  by_cases c1 : 200 < os.length
  · refine ⟨false, ?_, fun h => by cases h⟩
    have c1' : (200 : Int) < (os.length : Int) := by omega
    rw [ZB (X := X) _ b19 _ rfl rfl]; unfold b19; exact rg (fA4 @hO @hC @c1 @c1')
  have c1' : ¬ (200 : Int) < (os.length : Int) := by omega
  by_cases c2 : 12 < cs.length
  · refine ⟨false, ?_, fun h => by cases h⟩
    have c2' : (12 : Int) < (cs.length : Int) := by omega
    rw [ZB (X := X) _ b19 _ rfl rfl]; unfold b19; exact rg (fA6 @hO @hC @c1 @c1' @c2 @c2')
  have c2' : ¬ (12 : Int) < (cs.length : Int) := by omega
  obtain ⟨H1, hH1⟩ : ∃ H1, H1 = H ++ [HO.box 28 [.int .i64 p1, .int .i64 p2, .int .i64 p3, .int .i64 p4, Of, Cs]] := ⟨_, rfl⟩
  have hb1 : H1[H.length]? = some (.box 28 [.int .i64 p1, .int .i64 p2, .int .i64 p3, .int .i64 p4, Of, Cs]) := by rw [hH1]; simp
  have ht1 : H1.take H.length = H := by rw [hH1, List.take_append_of_le_length (Nat.le_refl _)]; exact List.take_length
  have hfin : ∀ r, fin H H1 [.bool r] = (.bool r, H) := fun r => by simp [fin, ht1, fz1, fz0]
  rcases loop19 hb1 hC hr (by omega) cs.length 0 (by omega) (by omega) with ⟨⟨ex, hl⟩, hok⟩ | hl
  · rw [List.drop_zero] at hok
    refine ⟨true, ?_, fun _ => ⟨by omega, by omega, hok⟩⟩
    rw [show ((0 : Nat) : Int) = 0 from rfl] at hl
    clear hok hb1 ht1 hr
    subst hH1
    rw [ZB (X := X) _ b19 _ rfl rfl]; unfold b19
    refine rn (fA6 @hO @hC @c1 @c1' @c2 @c2') ?_
    refine keG ?_
    rw [hl]
    refine rn trivial ?_
    simp only [Zn, ZY, lk, Za, List.map_cons, List.map_nil, reduceIte, Option.map_some, Nat.reduceEqDiff, hfin]
  · refine ⟨false, ?_, fun h => by cases h⟩
    rw [show ((0 : Nat) : Int) = 0 from rfl] at hl
    clear hb1 ht1 hr
    subst hH1
    rw [ZB (X := X) _ b19 _ rfl rfl]; unfold b19
    refine rn (fA6 @hO @hC @c1 @c1' @c2 @c2') ?_
    refine keG ?_
    rw [hl]
    refine rn trivial ?_
    simp only [Zn, ZY, lk, Za, List.map_cons, List.map_nil, reduceIte, Option.map_some, Nat.reduceEqDiff, hfin]
end Go.Proofs.YtmbgfbomgbdjeaaGreatDoor
