/- Ideal runs. -/
import Derived.Test.YtmbgfbomgbdjeaaGreatDoorStep
import Derived.Test.YtmbgfbomgbdjeaaGreatDoorColT
import Derived.Test.YtmbgfbomgbdjeaaGreatDoorNod
import Derived.Test.YtmbgfbomgbdjeaaGreatDoorPlainQ
import Derived.Test.YtmbgfbomgbdjeaaGreatDoorPlainB
namespace Go.Proofs.YtmbgfbomgbdjeaaGreatDoor
attribute [local go_sem] ZK ZF ZE ZG Zs Zi Zp Zl Zn Ze Zf Zm Zt Zu ZH Zr Zj ZD Zz Zy ZW ZA Yo put lk Od.v Za Zg Zo aj Yd Ye Yc au eqk DV.isU DV.cells ae ZP Ya ZO Zq splice ZQ af ZX eqs bh bV bQ aV bS bg aU aZ bR aW bU aY bf aX bW bY bP YA YB
attribute [local go_sem ↓] Zk
set_option linter.unusedVariables false
set_option linter.unusedSimpArgs false
set_option maxRecDepth 10000
structure RC where
 n : Int
 ys : List V
 bs : List Nat
 D : DV
 B : DV
def RC.d (c : RC) : DV := e7 c.n c.D c.B
structure RC.Ok (c : RC) : Prop where
 dict : e8 c.D c.ys
 yl : c.ys.length ≤ 200
 sm : ∀ x ∈ c.ys, Sm x
 bytes : bK c.B c.bs
 bb : BB c.bs
 bl : c.bs.length ≤ 200
structure RC.May (n : Nat) (c : RC) : Prop where
 ok : c.Ok
 may : okC c.n c.ys c.bs
 len : c.n = (n : Int)
def RC.sc (c : RC) : SC := ⟨c.ys, bL c.bs (wC c.ys.length) c.n.toNat⟩
theorem RC.May.col {n : Nat} {c : RC} (h : c.May n) : ColOk n c.D c.B c.ys c.sc.il := by
 have := (h.may.col h.ok.dict (by have := h.ok.yl; omega) h.ok.bytes h.ok.bb).2
 rw [h.len, Int.toNat_natCast] at this
 unfold RC.sc
 rw [h.len, Int.toNat_natCast]
 exact this
theorem RC.May.vals {n : Nat} {c : RC} (h : c.May n) : fM c.n c.ys c.bs = sZ c.sc n := by
 have hv : fM c.n c.ys c.bs = dZ c.ys (bL c.bs (wC c.ys.length) c.n.toNat) := by unfold fM; rw [if_pos h.may]
 rw [hv]
 have hl := h.col.len
 unfold sZ dZ
 have e : c.sc.il = bL c.bs (wC c.ys.length) c.n.toNat := rfl
 rw [← e]
 apply List.ext_getElem
 ·simp [hl]
 ·intro i h1 h2
  simp only [List.getElem_map, List.getElem_range, SC.val]
  have hi : i < c.sc.il.length := by simpa using h1
  have : c.sc.il.getD i 0 = c.sc.il[i] := by rw [List.getD_eq_getElem?_getD, List.getElem?_eq_getElem hi]; rfl
  rw [this]
  rfl
theorem bK.one' {R : DV} {bs : List Nat} (h : bK R bs) : R.one = true := by
 rcases h with ⟨rfl, _⟩ | rfl <;> rfl
def gR (es : List DV) (rs : List (List V)) : Prop := po es rs ∧ ∀ x ∈ es, Nr x
theorem gR.snoc {es : List DV} {rs : List (List V)} (h : gR es rs) {e : DV} {r : List V} (he : uH e r) : gR (es ++ [e]) (rs ++ [r]) := by
 refine ⟨⟨by simp [h.1.1], fun i d vs h1 h2 => ?_⟩, fun x hx => ?_⟩
 ·by_cases c : i < es.length
  ·rw [List.getElem?_append_left c] at h1
   rw [List.getElem?_append_left (by rw [← h.1.1]; exact c)] at h2
   exact h.1.2 i d vs h1 h2
  ·have hl := h.1.1
   have hi : i = es.length := by
    have := (List.getElem?_eq_some_iff.1 h1).1
    rw [List.length_append, List.length_cons, List.length_nil] at this; omega
   subst hi
   rw [List.getElem?_append_right (Nat.le_refl _), Nat.sub_self] at h1
   rw [hl, List.getElem?_append_right (Nat.le_refl _), Nat.sub_self] at h2
   injection h1 with h1
   injection h2 with h2
   rw [← h1, ← h2]; exact he
 ·rcases List.mem_append.1 hx with hx | hx
  ·exact h.2 x hx
  ·rw [List.mem_singleton] at hx
   rw [hx]; exact he.nr
structure RC.Raw (c : RC) : Prop where
 dict : e8 c.D c.ys
 sm : ∀ x ∈ c.ys, Sm x
 bytes : bK c.B c.bs
 bb : BB c.bs
theorem Nk {h : Zb} {n : Int} {D B : DV} {ys : List V} {b : Nat} (hb : h[b]? = some (.box 70 [.int .i64 n, D, B])) (hD : ∀ g, vw g 4 D = some (ys.map V.d)) (hl : ys.length ≤ 1000) :
 ∀ (m i : Nat), ys.length - i ≤ m → i ≤ ys.length → (∃ ex, C X (.loop lS) [(1, .ref b 0), (3, .int .i64 i)] h = some (.exit 0, ex, h)) ∨ C X (.loop lS) [(1, .ref b 0), (3, .int .i64 i)] h = some (.ret, [(2, .bool false)], h) := by
 intro m
 induction m with
 | zero =>
  intro i hm hi
  obtain rfl : i = ys.length := by omega
  left
  rw [Zc]
  unfold lS
  refine Yx (aD @hD @hb) ?_
  rw [Zx]
  exact ⟨_, rfl⟩
 | succ m ih =>
  intro i hm hi
  by_cases c : i < ys.length
  ·obtain ⟨I, hI⟩ : ∃ I, I = i + 1 := ⟨_, rfl⟩
   have z1 : IntKind.i64.wrap ((i : Int) + 1) = (I : Int) := wr
   obtain ⟨v, hv⟩ : ∃ v, v = ys[i] := ⟨_, rfl⟩
   have hv' := hv.symm
   have fO : ys[i]? = some v := by rw [List.getElem?_eq_getElem c, hv]
   by_cases c3 : 300 < v.s.size
   ·right
    have oI : (300 : Int) < (v.s.size : Int) := by omega
    have hs : C X lS [(1, .ref b 0), (3, .int .i64 i)] h = some (.ret, [(2, .bool false)], h) := by
     clear ih
     obtain ⟨vk, vn, vs', vt⟩ := v
     simp only [V.d] at *
     unfold lS
     refine Yx (ga @c @z1 @hD @hv' @fO @hb @c3 @oI) ?_
     simp [Za, lk]
    rw [Zc, hs, Yw]
   ·have oI : ¬ (300 : Int) < (v.s.size : Int) := by omega
    have hs : C X lS [(1, .ref b 0), (3, .int .i64 i)] h = some (.norm, [(1, .ref b 0), (3, .int .i64 I)], h) := by
     clear ih
     obtain ⟨vk, vn, vs', vt⟩ := v
     simp only [V.d] at *
     unfold lS
     refine Yx (ga @c @z1 @hD @hv' @fO @hb @c3 @oI) ?_
     simp [Za, lk]
    rw [Zc, hs, ZB]
    exact ih I (by omega) (by omega)
  ·exact ih i (by omega) hi
theorem QI {H : Zb} {c : RC} (hc : c.Raw) : ∃ bb, E X 43 [c.d] H = some (.bool bb, H) ∧ (bb = true → c.Ok) := by
 have fB := hc.dict.vw
 have Kh := hc.bytes.vw
 by_cases c1 : 200 < c.ys.length
 ·refine ⟨false, ?_, fun h => by cases h⟩
  have bM : (200 : Int) < (c.ys.length : Int) := by omega
  clear hc
  obtain ⟨cn, ys, bs, D, B⟩ := c
  simp only [RC.d] at *
  rw [Zv (X := X) _ vZ _ rfl rfl]; unfold vZ; exact rg (df @fB @Kh @c1 @bM)
 have bM : ¬ (200 : Int) < (c.ys.length : Int) := by omega
 by_cases c2 : 200 < c.bs.length
 ·refine ⟨false, ?_, fun h => by cases h⟩
  have dA : (200 : Int) < (c.bs.length : Int) := by omega
  clear hc
  obtain ⟨cn, ys, bs, D, B⟩ := c
  simp only [RC.d] at *
  rw [Zv (X := X) _ vZ _ rfl rfl]; unfold vZ; exact rg (eO @fB @Kh @c1 @bM @c2 @dA)
 have dA : ¬ (200 : Int) < (c.bs.length : Int) := by omega
 have hok : c.Ok := ⟨hc.dict, by omega, hc.sm, hc.bytes, hc.bb, by omega⟩
 obtain ⟨H1, ay⟩ : ∃ H1, H1 = H ++ [HO.box 70 [.int .i64 c.n, c.D, c.B]] := ⟨_, rfl⟩
 have dH : H1[H.length]? = some (.box 70 [.int .i64 c.n, c.D, c.B]) := by rw [ay]; simp
 have ht1 : H1.take H.length = H := by rw [ay, List.take_append_of_le_length (Nat.le_refl _)]; exact List.take_length
 have aA : ∀ r, fin H H1 [.bool r] = (.bool r, H) := fun r => by simp [fin, ht1, aH, aJ]
 rcases Nk dH fB (by omega) c.ys.length 0 (by omega) (by omega) with ⟨ex, hl⟩ | hl
 ·refine ⟨true, ?_, fun _ => hok⟩
  rw [show ((0 : Nat) : Int) = 0 from rfl] at hl
  clear hc hok dH ht1
  obtain ⟨cn, ys, bs, D, B⟩ := c
  simp only [RC.d] at *
  subst ay
  rw [Zv (X := X) _ vZ _ rfl rfl]; unfold vZ
  refine rn (eO @fB @Kh @c1 @bM @c2 @dA) ?_
  refine Yy ?_
  rw [hl]
  refine rn trivial ?_
  simp only [Zh, ZV, lk, Za, List.map_cons, List.map_nil, reduceIte, Option.map_some, Nat.reduceEqDiff, aA]
 ·refine ⟨false, ?_, fun _ => hok⟩
  rw [show ((0 : Nat) : Int) = 0 from rfl] at hl
  clear hc hok dH ht1
  obtain ⟨cn, ys, bs, D, B⟩ := c
  simp only [RC.d] at *
  subst ay
  rw [Zv (X := X) _ vZ _ rfl rfl]; unfold vZ
  refine rn (eO @fB @Kh @c1 @bM @c2 @dA) ?_
  refine Yy ?_
  rw [hl]
  refine rn trivial ?_
  simp only [Zh, ZV, lk, Za, List.map_cons, List.map_nil, reduceIte, Option.map_some, Nat.reduceEqDiff, aA]
theorem Nu {h : Zb} {Of Cs : DV} {p1 p2 p3 p4 : Int} {cs : List RC} {b : Nat} (hb : h[b]? = some (.box 28 [.int .i64 p1, .int .i64 p2, .int .i64 p3, .int .i64 p4, Of, Cs])) (hC : ∀ g, vw g 3 Cs = some (cs.map RC.d)) (hr : ∀ c ∈ cs, c.Raw) (hl : cs.length ≤ 1000) :
 ∀ (m i : Nat), cs.length - i ≤ m → i ≤ cs.length → ((∃ ex, C X (.loop lZ) [(1, .ref b 0), (3, .int .i64 i)] h = some (.exit 0, ex, h)) ∧ ∀ c ∈ cs.drop i, c.Ok) ∨ C X (.loop lZ) [(1, .ref b 0), (3, .int .i64 i)] h = some (.ret, [(2, .bool false)], h) := by
 intro m
 induction m with
 | zero =>
  intro i hm hi
  obtain rfl : i = cs.length := by omega
  refine .inl ⟨?_, by rw [List.drop_length]; intro c hc; cases hc⟩
  rw [Zc]
  unfold lZ
  refine Yx (aD @hC @hb) ?_
  rw [Zx]
  exact ⟨_, rfl⟩
 | succ m ih =>
  intro i hm hi
  by_cases c : i < cs.length
  ·obtain ⟨I, hI⟩ : ∃ I, I = i + 1 := ⟨_, rfl⟩
   have z1 : IntKind.i64.wrap ((i : Int) + 1) = (I : Int) := wr
   obtain ⟨x, hx⟩ : ∃ x, x = cs[i] := ⟨_, rfl⟩
   have hge : cs[i].d = .agg [.int .i64 x.n, x.D, x.B] := by rw [← hx]; rfl
   obtain ⟨bb, FP, hbb⟩ := QI (H := h) (hr x (by rw [hx]; exact List.getElem_mem c))
   have FP : E X 43 [.agg [.int .i64 x.n, x.D, x.B]] h = some (.bool bb, h) := FP
   have hd : cs.drop i = x :: cs.drop I := by rw [List.drop_eq_getElem_cons c, ← hx, hI]
   cases bb
   ·right
    have hs : C X lZ [(1, .ref b 0), (3, .int .i64 i)] h = some (.ret, [(2, .bool false)], h) := by
     clear ih
     unfold lZ
     refine Yx (eO @c @z1 @hC @hge @hb @FP) ?_
     simp [Za, lk]
    rw [Zc, hs, Yw]
   ·have hs : C X lZ [(1, .ref b 0), (3, .int .i64 i)] h = some (.norm, [(1, .ref b 0), (3, .int .i64 I)], h) := by
     clear ih
     unfold lZ
     refine Yx (eO @c @z1 @hC @hge @hb @FP) ?_
     simp [Za, lk]
    rw [Zc, hs, ZB]
    rcases ih I (by omega) (by omega) with ⟨h1, h2⟩ | h1
    ·refine .inl ⟨h1, fun q hq => ?_⟩
     rw [hd] at hq
     rcases List.mem_cons.1 hq with rfl | hq
     ·exact hbb rfl
     ·exact h2 q hq
    ·exact .inr h1
  ·exact ih i (by omega) hi
structure SegA (Of Cs : DV) (os : List DV) (cs : List RC) : Prop where
 o : ∀ g, vw g 1 Of = some os
 c : ∀ g, vw g 3 Cs = some (cs.map RC.d)
 raw : ∀ c ∈ cs, c.Raw
theorem QT {H : Zb} {Of Cs : DV} {p1 p2 p3 p4 : Int} {os : List DV} {cs : List RC} (hS : SegA Of Cs os cs) : ∃ bb, E X 19 [.agg [.int .i64 p1, .int .i64 p2, .int .i64 p3, .int .i64 p4, Of, Cs]] H = some (.bool bb, H) ∧ (bb = true → os.length ≤ 200 ∧ cs.length ≤ 12 ∧ ∀ c ∈ cs, c.Ok) := by
 obtain ⟨hO, hC, hr⟩ := hS
 by_cases c1 : 200 < os.length
 ·refine ⟨false, ?_, fun h => by cases h⟩
  have bM : (200 : Int) < (os.length : Int) := by omega
  rw [Zv (X := X) _ rq _ rfl rfl]; unfold rq; exact rg (df @hO @hC @c1 @bM)
 have bM : ¬ (200 : Int) < (os.length : Int) := by omega
 by_cases c2 : 12 < cs.length
 ·refine ⟨false, ?_, fun h => by cases h⟩
  have dA : (12 : Int) < (cs.length : Int) := by omega
  rw [Zv (X := X) _ rq _ rfl rfl]; unfold rq; exact rg (eO @hO @hC @c1 @bM @c2 @dA)
 have dA : ¬ (12 : Int) < (cs.length : Int) := by omega
 obtain ⟨H1, ay⟩ : ∃ H1, H1 = H ++ [HO.box 28 [.int .i64 p1, .int .i64 p2, .int .i64 p3, .int .i64 p4, Of, Cs]] := ⟨_, rfl⟩
 have dH : H1[H.length]? = some (.box 28 [.int .i64 p1, .int .i64 p2, .int .i64 p3, .int .i64 p4, Of, Cs]) := by rw [ay]; simp
 have ht1 : H1.take H.length = H := by rw [ay, List.take_append_of_le_length (Nat.le_refl _)]; exact List.take_length
 have aA : ∀ r, fin H H1 [.bool r] = (.bool r, H) := fun r => by simp [fin, ht1, aH, aJ]
 rcases Nu dH hC hr (by omega) cs.length 0 (by omega) (by omega) with ⟨⟨ex, hl⟩, hok⟩ | hl
 ·rw [List.drop_zero] at hok
  refine ⟨true, ?_, fun _ => ⟨by omega, by omega, hok⟩⟩
  rw [show ((0 : Nat) : Int) = 0 from rfl] at hl
  clear hok dH ht1 hr
  subst ay
  rw [Zv (X := X) _ rq _ rfl rfl]; unfold rq
  refine rn (eO @hO @hC @c1 @bM @c2 @dA) ?_
  refine Yy ?_
  rw [hl]
  refine rn trivial ?_
  simp only [Zh, ZV, lk, Za, List.map_cons, List.map_nil, reduceIte, Option.map_some, Nat.reduceEqDiff, aA]
 ·refine ⟨false, ?_, fun h => by cases h⟩
  rw [show ((0 : Nat) : Int) = 0 from rfl] at hl
  clear dH ht1 hr
  subst ay
  rw [Zv (X := X) _ rq _ rfl rfl]; unfold rq
  refine rn (eO @hO @hC @c1 @bM @c2 @dA) ?_
  refine Yy ?_
  rw [hl]
  refine rn trivial ?_
  simp only [Zh, ZV, lk, Za, List.map_cons, List.map_nil, reduceIte, Option.map_some, Nat.reduceEqDiff, aA]
end Go.Proofs.YtmbgfbomgbdjeaaGreatDoor
