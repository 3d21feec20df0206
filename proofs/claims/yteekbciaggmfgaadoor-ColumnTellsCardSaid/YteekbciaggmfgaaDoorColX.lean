/- Ideal runs. -/
import Derived.Test.YteekbciaggmfgaaDoorStep
import Derived.Test.YteekbciaggmfgaaDoorColT
import Derived.Test.YteekbciaggmfgaaDoorNod
import Derived.Test.YteekbciaggmfgaaDoorPlainQ
import Derived.Test.YteekbciaggmfgaaDoorPlainB
namespace Go.Proofs.YteekbciaggmfgaaDoor
attribute [local go_sem] ZF Zy ZA ZB Zp Zf Zm Zi Zk Zc Zd Zj Zq Zr ZC Zo Zg Zz Zu Zt ZR Zv Yj put lk Od.v Za Ze Zl Yv Yb Ya Yd ai Yt DV.isU DV.cells ae ZJ ZX ZK Zn splice ZM af ZT Ys bz bR bL bf bP bu aZ bn bN bg bQ bj bq bh bU bV bK aQ aR
attribute [local go_sem ↓] Zh
set_option linter.unusedVariables false
set_option linter.unusedSimpArgs false
set_option maxRecDepth 10000
structure RC where
 n : Int
 ys : List V
 bs : List Nat
 D : DV
 B : DV
def RC.d (c : RC) : DV := aI c.n c.D c.B
structure RC.Ok (c : RC) : Prop where
 dict : df c.D c.ys
 yl : c.ys.length ≤ 200
 sm : ∀ x ∈ c.ys, Sm x
 bytes : aC c.B c.bs
 bb : BB c.bs
 bl : c.bs.length ≤ 200
structure RC.May (n : Nat) (c : RC) : Prop where
 ok : c.Ok
 may : dU c.n c.ys c.bs
 len : c.n = (n : Int)
def RC.sc (c : RC) : SC := ⟨c.ys, bF c.bs (wC c.ys.length) c.n.toNat⟩
theorem RC.May.col {n : Nat} {c : RC} (h : c.May n) : ColOk n c.D c.B c.ys c.sc.il := by
 have := (h.may.col h.ok.dict (by have := h.ok.yl; omega) h.ok.bytes h.ok.bb).2
 rw [h.len, Int.toNat_natCast] at this
 unfold RC.sc
 rw [h.len, Int.toNat_natCast]
 exact this
theorem aC.one' {R : DV} {bs : List Nat} (h : aC R bs) : R.one = true := by
 rcases h with ⟨rfl, _⟩ | rfl <;> rfl
structure RC.Raw (c : RC) : Prop where
 dict : df c.D c.ys
 sm : ∀ x ∈ c.ys, Sm x
 bytes : aC c.B c.bs
 bb : BB c.bs
theorem KW {h : Zb} {n : Int} {D B : DV} {ys : List V} {b : Nat} (hb : h[b]? = some (.box 25 [.int .i64 n, D, B])) (hD : ∀ g, vw g 4 D = some (ys.map V.d)) (hl : ys.length ≤ 1000) :
 ∀ (m i : Nat), ys.length - i ≤ m → i ≤ ys.length → (∃ ex, C X (.loop kW) [(1, .ref b 0), (3, .int .i64 i)] h = some (.exit 0, ex, h)) ∨ C X (.loop kW) [(1, .ref b 0), (3, .int .i64 i)] h = some (.ret, [(2, .bool false)], h) := by
 intro m
 induction m with
 | zero =>
  intro i hm hi
  obtain rfl : i = ys.length := by omega
  left
  rw [Zx]
  unfold kW
  refine aT (cC @hD @hb) ?_
  rw [ZS]
  exact ⟨_, rfl⟩
 | succ m ih =>
  intro i hm hi
  by_cases c : i < ys.length
  ·obtain ⟨I, hI⟩ : ∃ I, I = i + 1 := ⟨_, rfl⟩
   have z1 : IntKind.i64.wrap ((i : Int) + 1) = (I : Int) := wr
   obtain ⟨v, hv⟩ : ∃ v, v = ys[i] := ⟨_, rfl⟩
   have hv' := hv.symm
   have iT : ys[i]? = some v := by rw [List.getElem?_eq_getElem c, hv]
   by_cases c3 : 300 < v.s.size
   ·right
    have Ji : (300 : Int) < (v.s.size : Int) := by omega
    have hs : C X kW [(1, .ref b 0), (3, .int .i64 i)] h = some (.ret, [(2, .bool false)], h) := by
     clear ih
     obtain ⟨vk, vn, vs', vt⟩ := v
     simp only [V.d] at *
     unfold kW
     refine aT (gN @c @z1 @hD @hv' @iT @hb @c3 @Ji) ?_
     simp [Za, lk]
    rw [Zx, hs, cQ]
   ·have Ji : ¬ (300 : Int) < (v.s.size : Int) := by omega
    have hs : C X kW [(1, .ref b 0), (3, .int .i64 i)] h = some (.norm, [(1, .ref b 0), (3, .int .i64 I)], h) := by
     clear ih
     obtain ⟨vk, vn, vs', vt⟩ := v
     simp only [V.d] at *
     unfold kW
     refine aT (gN @c @z1 @hD @hv' @iT @hb @c3 @Ji) ?_
     simp [Za, lk]
    rw [Zx, hs, ZZ]
    exact ih I (by omega) (by omega)
  ·exact ih i (by omega) hi
theorem Mq {H : Zb} {c : RC} (hc : c.Raw) : ∃ bb, E X 6 [c.d] H = some (.bool bb, H) ∧ (bb = true → c.Ok) := by
 have aU := hc.dict.vw
 have xD := hc.bytes.vw
 by_cases c1 : 200 < c.ys.length
 ·refine ⟨false, ?_, fun h => by cases h⟩
  have iY : (200 : Int) < (c.ys.length : Int) := by omega
  clear hc
  obtain ⟨cn, ys, bs, D, B⟩ := c
  simp only [RC.d] at *
  rw [ZO (X := X) _ b6 _ rfl rfl]; unfold b6; exact rg (d8 @aU @xD @c1 @iY)
 have iY : ¬ (200 : Int) < (c.ys.length : Int) := by omega
 by_cases c2 : 200 < c.bs.length
 ·refine ⟨false, ?_, fun h => by cases h⟩
  have kH : (200 : Int) < (c.bs.length : Int) := by omega
  clear hc
  obtain ⟨cn, ys, bs, D, B⟩ := c
  simp only [RC.d] at *
  rw [ZO (X := X) _ b6 _ rfl rfl]; unfold b6; exact rg (jP @aU @xD @c1 @iY @c2 @kH)
 have kH : ¬ (200 : Int) < (c.bs.length : Int) := by omega
 have hok : c.Ok := ⟨hc.dict, by omega, hc.sm, hc.bytes, hc.bb, by omega⟩
 obtain ⟨H1, eu⟩ : ∃ H1, H1 = H ++ [HO.box 25 [.int .i64 c.n, c.D, c.B]] := ⟨_, rfl⟩
 have eR : H1[H.length]? = some (.box 25 [.int .i64 c.n, c.D, c.B]) := by rw [eu]; simp
 have ht1 : H1.take H.length = H := by rw [eu, List.take_append_of_le_length (Nat.le_refl _)]; exact List.take_length
 have aB : ∀ r, fin H H1 [.bool r] = (.bool r, H) := fun r => by simp [fin, ht1, aO, aV]
 rcases KW eR aU (by omega) c.ys.length 0 (by omega) (by omega) with ⟨ex, hl⟩ | hl
 ·refine ⟨true, ?_, fun _ => hok⟩
  rw [show ((0 : Nat) : Int) = 0 from rfl] at hl
  clear hc hok eR ht1
  obtain ⟨cn, ys, bs, D, B⟩ := c
  simp only [RC.d] at *
  subst eu
  rw [ZO (X := X) _ b6 _ rfl rfl]; unfold b6
  refine rn (jP @aU @xD @c1 @iY @c2 @kH) ?_
  refine aD ?_
  rw [hl]
  refine rn trivial ?_
  simp only [Zw, Yc, lk, Za, List.map_cons, List.map_nil, reduceIte, Option.map_some, Nat.reduceEqDiff, aB]
 ·refine ⟨false, ?_, fun _ => hok⟩
  rw [show ((0 : Nat) : Int) = 0 from rfl] at hl
  clear hc hok eR ht1
  obtain ⟨cn, ys, bs, D, B⟩ := c
  simp only [RC.d] at *
  subst eu
  rw [ZO (X := X) _ b6 _ rfl rfl]; unfold b6
  refine rn (jP @aU @xD @c1 @iY @c2 @kH) ?_
  refine aD ?_
  rw [hl]
  refine rn trivial ?_
  simp only [Zw, Yc, lk, Za, List.map_cons, List.map_nil, reduceIte, Option.map_some, Nat.reduceEqDiff, aB]
structure SegA (Of Cs : DV) (os : List DV) (cs : List RC) : Prop where
 o : ∀ g, vw g 1 Of = some os
 c : ∀ g, vw g 3 Cs = some (cs.map RC.d)
 raw : ∀ c ∈ cs, c.Raw
end Go.Proofs.YteekbciaggmfgaaDoor
