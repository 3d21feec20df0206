/- Ideal runs. -/
import Derived.Test.YtmbgfbomgbdjeaaGreatDoorStep
import Derived.Test.YtmbgfbomgbdjeaaGreatDoorColH
import Derived.Test.YtmbgfbomgbdjeaaGreatDoorPlainB
import Derived.Test.YtmbgfbomgbdjeaaGreatDoorNod
namespace Go.Proofs.YtmbgfbomgbdjeaaGreatDoor
attribute [local go_sem] ZN ZG ZF ZH Zt Zh Zp Zk Zm Ze Zf Zl Zu Zv ZI Zs Zi ZE Zy Zx ZX ZA Yp put lk Od.v Za Zg Zo ax Yg Yh Yd ay eqk DV.isU DV.cells ae ZO Yb ZP Zr splice ZR af ZY eqs bJ cr bY bz cg bH bw bF bZ bA cm bE bG bC cu cw bW Yx Yy
attribute [local go_sem ↓] Zj
set_option linter.unusedVariables false
set_option linter.unusedSimpArgs false
set_option maxRecDepth 10000
end Go.Proofs.YtmbgfbomgbdjeaaGreatDoor
namespace Go.Proofs.YtmbgfbomgbdjeaaGreatDoor
set_option linter.unusedVariables false
set_option linter.unusedSimpArgs false
set_option maxRecDepth 10000
def aT (T sz : Nat) (H h : Zb) (d : DV) (xs : List DV) : Prop :=
 h.take H.length = H ∧ ((d = .nils ∧ xs = []) ∨ ∃ g o, d = .row o g 0 xs.length false ∧ H.length ≤ o ∧ h[o]? = some (.row T sz g xs))
theorem eJ {H h : Zb} (ht : h.take H.length = H) : H.length ≤ h.length := by
 have := congrArg List.length ht
 rw [List.length_take] at this; omega
section
variable {T sz : Nat} {H h : Zb} {d : DV} {xs : List DV}
theorem aT.zero : aT T sz H H .nils [] := ⟨List.take_length, .inl ⟨rfl, rfl⟩⟩
theorem aT.ext (hg : aT T sz H h d xs) (G : Zb) : aT T sz H (h ++ G) d xs := by
 obtain ⟨ht, hr⟩ := hg
 refine ⟨?_, ?_⟩
 ·rw [List.take_append_of_le_length (eJ ht)]; exact ht
 ·rcases hr with hr | ⟨g, o, h1, h2, h3⟩
  ·exact .inl hr
  ·exact .inr ⟨g, o, h1, h2, by rw [List.getElem?_append_left (List.getElem?_eq_some_iff.1 h3).1]; exact h3⟩
theorem aT.vw (hg : aT T sz H h d xs) : vw h sz d = some xs := by
 rcases hg.2 with ⟨rfl, rfl⟩ | ⟨g, o, rfl, h2, h3⟩
 ·rfl
 ·simp [Go.Proofs.YtmbgfbomgbdjeaaGreatDoor.vw, h3, List.take_of_length_le]
theorem aT.app (hg : aT T sz H h d xs) (b : Nat) (ys : List DV) (hb : (xs.length + ys.length) * b ≤ 140737488355328) : ∃ d' h', aW h T sz b d xs ys = some (d', h') ∧ aT T sz H h' d' (xs ++ ys) := by
 by_cases hy : ys = []
 ·subst hy
  exact ⟨d, h, by simp [aW], by rw [List.append_nil]; exact hg⟩
 ·obtain ⟨ht, hr⟩ := hg
  rcases hr with ⟨rfl, rfl⟩ | ⟨g, o, rfl, h2, h3⟩
  ·refine ⟨.row h.length 0 0 ys.length false, h ++ [.row T sz 0 ys], ?_, ?_, .inr ⟨0, h.length, by simp, eJ ht, by simp⟩⟩
   ·simp only [aW, if_neg hy]
    rw [if_pos hb]
   ·rw [List.take_append_of_le_length (eJ ht)]; exact ht
  ·have hlt := (List.getElem?_eq_some_iff.1 h3).1
   refine ⟨.row o (g + 1) 0 (xs.length + ys.length) false, h.set o (.row T sz (g + 1) (xs ++ ys)), ?_, ?_, .inr ⟨g + 1, o, by simp, h2, ?_⟩⟩
   ·simp only [aW, if_neg hy, h3]
    rw [if_pos hb]
    simp
   ·rw [List.take_set_of_le h2]; exact ht
   ·rw [List.getElem?_set_self hlt]
theorem aT.fin (hg : aT T sz H h d xs) (hn : ∀ x ∈ xs, Nr x) : (d = .nils ∧ fin H h [d] = (.nils, H)) ∨ (d ≠ .nils ∧ fin H h [d] = (.fresh T sz xs, H)) := by
 obtain ⟨ht, hr⟩ := hg
 rcases hr with ⟨rfl, rfl⟩ | ⟨g, o, rfl, h2, h3⟩
 ·exact .inl ⟨rfl, by simp [Go.Proofs.YtmbgfbomgbdjeaaGreatDoor.fin, ht, aJ, aO]⟩
 ·refine .inr ⟨by simp, ?_⟩
  simp only [Go.Proofs.YtmbgfbomgbdjeaaGreatDoor.fin]
  rw [if_pos ht]
  simp only [aJ, aO]
  rw [if_neg (by omega), h3]
  simp only
  rw [if_pos ⟨rfl, by simp, hn⟩]
  simp
end
theorem jN {H h : Zb} (ht : h.take H.length = H) {o : Nat} {x : HO} (hx : H[o]? = some x) : h[o]? = some x := by
 have hlt := (List.getElem?_eq_some_iff.1 hx).1
 have : (h.take H.length)[o]? = some x := by rw [ht]; exact hx
 rw [List.getElem?_take, if_pos hlt] at this
 exact this
theorem vo {H h : Zb} (ht : h.take H.length = H) {sz : Nat} {d : DV} {xs : List DV} (hv : vw H sz d = some xs) : vw h sz d = some xs := by
 have := List.take_append_drop H.length h
 rw [ht] at this
 rw [← this]
 exact iL hv
theorem aT.base {T sz : Nat} {H H1 h : Zb} {d : DV} {xs : List DV} (hg : aT T sz H1 h d xs) (hH : H1.take H.length = H) : aT T sz H h d xs := by
 have hl := eJ hH
 refine ⟨?_, ?_⟩
 ·have h5 : h.take H.length = (h.take H1.length).take H.length := by rw [List.take_take, Nat.min_eq_left hl]
  rw [h5, hg.1, hH]
 ·rcases hg.2 with h1 | ⟨g, o, h1, h2, h3⟩
  ·exact .inl h1
  ·exact .inr ⟨g, o, h1, by omega, h3⟩
end Go.Proofs.YtmbgfbomgbdjeaaGreatDoor
namespace Go.Proofs.YtmbgfbomgbdjeaaGreatDoor
attribute [local go_sem] ZN ZG ZF ZH Zt Zh Zp Zk Zm Ze Zf Zl Zu Zv ZI Zs Zi ZE Zy Zx ZX ZA Yp put lk Od.v Za Zg Zo ax Yg Yh Yd ay eqk DV.isU DV.cells ae ZO Yb ZP Zr splice ZR af ZY eqs bJ cr bY bz cg bH bw bF bZ bA cm bE bG bC cu cw bW Yx Yy
attribute [local go_sem ↓] Zj
set_option linter.unusedVariables false
set_option linter.unusedSimpArgs false
set_option maxRecDepth 10000
def sh (H : Zb) (n : Int) (D B : DV) (bl : List Bool) : Zb := H ++ [.box 70 [.int .i64 n, D, B], .row 4 1 0 (bl.map DV.bool)]
def kM (ys : List V) (il : List Nat) : List V := il.map fun p => ys.getD p v0
def Qu (d : DV) (vs : List V) : Prop := (d = .nils ∧ vs = []) ∨ d = .fresh 56 4 (vs.map V.d)
theorem nq (vs : List V) : ∀ x ∈ vs.map V.d, Nr x := fun x hx => by
 obtain ⟨v, _, rfl⟩ := List.mem_map.1 hx
 exact v.nr
theorem aT.valD {H h : Zb} {d : DV} {vs : List V} (hg : aT 56 4 H h d (vs.map V.d)) : ∃ R, Go.Proofs.YtmbgfbomgbdjeaaGreatDoor.fin H h [d] = (R, H) ∧ Qu R vs := by
 rcases hg.fin (nq vs) with ⟨rfl, h1⟩ | ⟨_, h1⟩
 ·refine ⟨_, h1, .inl ⟨rfl, ?_⟩⟩
  rcases hg.2 with ⟨_, h2⟩ | ⟨g, o, h2, _⟩
  ·simpa using h2
  ·cases h2
 ·exact ⟨_, h1, .inr rfl⟩
theorem Nz {Hb : Zb} {n : Int} {D B R : DV} {ys : List V} {il : List Nat} {b : Nat} (hb : Hb[b]? = some (.box 70 [.int .i64 n, D, B])) (hD : ∀ g, vw g 4 D = some (ys.map V.d)) (hR : ∀ g, vw g 1 R = some (il.map iD)) (hl : il.length ≤ 4096) (hlt : ∀ p ∈ il, p < ys.length) :
 ∀ (m i : Nat) (h : Zb) (o : DV), il.length - i ≤ m → i ≤ il.length → aT 56 4 Hb h o ((kM ys (il.take i)).map V.d) → ∃ ex h' o', C X (.loop rK) [(1, .ref b 0), (5, o), (15, R), (16, .int .i64 il.length), (17, .int .i64 i)] h = some (.exit 0, (1, .ref b 0) :: (5, o') :: ex, h') ∧ aT 56 4 Hb h' o' ((kM ys il).map V.d) := by
 intro m
 induction m with
 | zero =>
  intro i h o hm hi hg
  obtain rfl : i = il.length := by omega
  refine ⟨[(15, R), (16, .int .i64 il.length), (17, .int .i64 il.length), (18, .bool false)], h, o, ?_, by rw [List.take_length] at hg; exact hg⟩
  rw [Zc]
  unfold rK
  refine rn trivial ?_
  rw [Zw]
  simp [Za, lk]
 | succ m ih =>
  intro i h o hm hi hg
  by_cases c : i < il.length
  ·obtain ⟨I, hI⟩ : ∃ I, I = i + 1 := ⟨_, rfl⟩
   have z1 : IntKind.i64.wrap ((i : Int) + 1) = (I : Int) := wr
   obtain ⟨p, j3⟩ : ∃ p, p = il[i] := ⟨_, rfl⟩
   have xw := j3.symm
   have hpi : il[i]? = some p := by rw [List.getElem?_eq_getElem c, j3]
   have hpl := hlt p (by rw [j3]; exact List.getElem_mem c)
   obtain ⟨v, hv⟩ : ∃ v, v = ys[p] := ⟨_, rfl⟩
   have hv' := hv.symm
   have Se : ys[p]? = some v := by rw [hv]; exact List.getElem?_eq_getElem hpl
   have hgd : ys.getD p v0 = v := by rw [List.getD_eq_getElem?_getD, Se]; rfl
   have e : (kM ys (il.take I)).map V.d = (kM ys (il.take i)).map V.d ++ [v.d] := by
    unfold kM
    rw [hI, ← List.take_append_getElem c, ← j3]
    simp only [List.map_append, List.map_cons, List.map_nil, hgd]
   have aA : ((kM ys (il.take i)).map V.d).length ≤ 4096 := by unfold kM; simp; omega
   obtain ⟨o2, h2, ha, hg2⟩ := hg.app 40 [v.d] (by simp only [List.length_cons, List.length_nil]; omega)
   rw [← e] at hg2
   have eY := ih I h2 o2 (by omega) (by omega) hg2
   have hb' := jN hg.1 hb
   have hw := hg.vw
   have y1 : ∀ h, bL [v.d] h = some ([v.d], h) := fun _ => rfl
   have y2 : Wc 4 v.d := by simp [Wc, DV.cells, V.d, DV.one]
   have y3 : Nr v.d := v.nr
   have y4 : ∀ h, aM h 4 (.list 4 [v.d] true) = some [v.d] := fun _ => rfl
   have hs : C X rK [(1, .ref b 0), (5, o), (15, R), (16, .int .i64 il.length), (17, .int .i64 i)] h = some (.norm, [(1, .ref b 0), (5, o2), (15, R), (16, .int .i64 il.length), (17, .int .i64 I)], h2) := by
    clear ih eY hg hg2 e aA hb hgd
    generalize (kM ys (il.take i)).map V.d = cur at *
    obtain ⟨vk, vn, vs', vt⟩ := v
    simp only [V.d] at *
    unfold rK
    refine ah (DG @c @z1 @hR @hD @xw @hpi @hpl @Se @hv' @hb' @y1 @y2 @y3 @y4 @hw @ha) ?_
    simp [Za, lk]
   rw [Zc, hs, ZB]
   exact eY
  ·exact ih i h o (by omega) hi hg
open Classical in
noncomputable def jK (n : Int) (ys : List V) (bs : List Nat) : List V := if okC n ys bs then kM ys (fP bs (wC ys.length) n.toNat) else []
theorem QT {H : Zb} {n : Int} {D B : DV} {ys : List V} {bs : List Nat} (hD : eU D ys) (qQ : ys.length ≤ 200) (hB : bV B bs) (bb : BB bs) :
 ∃ d, E X 71 [eS n D B] H = some (d, H) ∧ Qu d (jK n ys bs) := by
 obtain ⟨H1, aF⟩ : ∃ H1, H1 = H ++ [HO.box 70 [.int .i64 n, D, B]] := ⟨_, rfl⟩
 have jh : H1[H.length]? = some (.box 70 [.int .i64 n, D, B]) := by rw [aF]; simp
 have ht1 : H1.take H.length = H := by rw [aF, List.take_append_of_le_length (Nat.le_refl _)]; exact List.take_length
 have qV := hD.vw
 by_cases hok : okC n ys bs
 ·have hv : jK n ys bs = kM ys (fP bs (wC ys.length) n.toNat) := by unfold jK; rw [if_pos hok]
  rw [hv]
  obtain ⟨hn, hC⟩ := hok.col hD (by omega) hB bb
  obtain ⟨R, KM, j7⟩ := BO hC H1
  rw [← hn] at KM
  have hlt := hok.2.2.2.2.1
  have hl : (fP bs (wC ys.length) n.toNat).length ≤ 4096 := by rw [k6]; have := hok.2.1; omega
  generalize fP bs (wC ys.length) n.toNat = il at *
  obtain ⟨ex, h2, o2, hc, hg⟩ := Nz jh qV j7 hl hlt il.length 0 H1 .nils (by omega) (by omega) aT.zero
  rw [show ((0 : Nat) : Int) = 0 from rfl] at hc
  obtain ⟨d, aD, hd⟩ := (hg.base ht1).valD
  refine ⟨d, ?_, hd⟩
  clear hg hd hlt ht1 hC hok hv hn
  subst aF
  rw [Zz (X := X) _ GF _ rfl rfl]; unfold GF
  refine rn (aL @KM @j7) ?_
  refine aj ?_
  rw [hc]
  refine rn trivial ?_
  simp only [Zn, ZW, lk, Za, List.map_cons, List.map_nil, reduceIte, Option.map_some, Nat.reduceEqDiff, aD]
 ·have hv : jK n ys bs = [] := by unfold jK; rw [if_neg hok]
  rw [hv]
  obtain ⟨R, il, KM, _⟩ := BN (H := H1) (n := n) hD (by omega) hB bb hok
  refine ⟨.nils, ?_, .inl ⟨rfl, rfl⟩⟩
  subst aF
  clear hok hv
  rw [Zz (X := X) _ GF _ rfl rfl]; unfold GF; exact rg @KM
def Tp (r : List V) : DV := .list 4 (r.map V.d) false
theorem La (r : List V) : Nr (Tp r) := .list (nq r)
theorem K9 {h : Zb} {r g t n : Nat} {xs : List V} (h1 : h[r]? = some (.row t 4 g (xs.map V.d))) (hn : xs.length = n) : vw h 4 (.row r g 0 n false) = some (xs.map V.d) := by
 subst hn; simp [vw, h1, List.take_of_length_le]
end Go.Proofs.YtmbgfbomgbdjeaaGreatDoor
