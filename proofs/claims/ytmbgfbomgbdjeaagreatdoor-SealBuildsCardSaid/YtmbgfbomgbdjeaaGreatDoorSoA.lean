/- Ideal runs. -/
import Derived.Test.YtmbgfbomgbdjeaaGreatDoorStep
import Derived.Test.YtmbgfbomgbdjeaaGreatDoorStbA
import Derived.Test.YtmbgfbomgbdjeaaGreatDoorSealA
import Derived.Test.YtmbgfbomgbdjeaaGreatDoorColL
import Derived.Test.YtmbgfbomgbdjeaaGreatDoorPlainB
import Derived.Test.YtmbgfbomgbdjeaaGreatDoorNod
import Derived.Test.YtmbgfbomgbdjeaaGreatDoorColT
import Derived.Test.YtmbgfbomgbdjeaaGreatDoorQryR
namespace Go.Proofs.YtmbgfbomgbdjeaaGreatDoor
attribute [local go_sem] ZN ZG ZF ZH Zt Zh Zp Zk Zm Ze Zf Zl Zu Zv ZI Zs Zi ZE Zy Zx ZX ZA Yp put lk Od.v Za Zg Zo ax Yg Yh Yd ay eqk DV.isU DV.cells ae ZO Yb ZP Zr splice ZR af ZY eqs bJ cr bY bz cg bH bw bF bZ bA cm bE bG bC cu cw bW Yx Yy
attribute [local go_sem ↓] Zj
set_option linter.unusedVariables false
set_option linter.unusedSimpArgs false
set_option maxRecDepth 10000
theorem uN (a b : Int) : 0 < eD a b ↔ b < a := by
 unfold eD
 split
 ·simp; omega
 ·split <;> simp_all
theorem AW : ∀ (x y : List UInt8), 0 < cmpL x y ↔ cmpL y x < 0
 | [], [] => by simp [cmpL, Op.bytesLess]
 | [], _ :: _ => by simp [cmpL, Op.bytesLess]
 | _ :: _, [] => by simp [cmpL, Op.bytesLess]
 | a :: x, b :: y => by
  by_cases h1 : a < b
  ·rw [xF _ _ h1, xG _ _ h1]; simp
  by_cases h2 : b < a
  ·rw [xG _ _ h2, xF _ _ h2]; simp
  have : a = b := by
   rw [UInt8.lt_iff_toNat_lt] at *
   exact UInt8.toNat_inj.1 (by omega)
  subst this
  rw [cmpL_eq, cmpL_eq]
  exact AW x y
theorem qy (a b : V) : ord b a < 0 ↔ 0 < ord a b := by
 obtain ⟨k, n, s, t⟩ := a
 obtain ⟨k', n', s', t'⟩ := b
 unfold ord
 simp only
 by_cases h1 : k = k'
 ·subst h1
  simp only [ne_eq, not_true_eq_false, ↓reduceIte]
  by_cases h2 : k = 1
  ·simp only [h2, ↓reduceIte]; rw [lg, uN]
  simp only [h2, ↓reduceIte]
  by_cases h3 : k = 2
  ·simp only [h3, ↓reduceIte]; rw [AV, AV]
   exact (AW _ _).symm
  simp only [h3, ↓reduceIte]
  by_cases h4 : k = 3
  ·simp only [h4, ↓reduceIte]; rw [lg, uN]
  simp [h4]
 ·rw [if_pos (fun h => h1 h.symm), if_pos h1, lg, uN]
theorem zH (a b c : V) (h1 : ord a b ≤ 0) (h2 : ord b c ≤ 0) : ord a c ≤ 0 := by
 by_cases h : ord a c ≤ 0
 ·exact h
 have h3 := (qy a c).2 (by omega)
 have e1 := qy a b
 have e2 := qy b c
 rcases ED c b a h3 with h4 | h4 <;> omega
def dl (s : Sch) (rs : List (List V)) (i k : Nat) : Int := kN s (rs.getD i []) (rs.getD k [])
theorem oN (s : Sch) (rs : List (List V)) (x y : Nat) : dl s rs y x < 0 ↔ 0 < dl s rs x y := by
 unfold dl kN
 split
 ·simp
 ·exact qy _ _
theorem qu (s : Sch) (rs : List (List V)) (x y z : Nat) (h1 : dl s rs x y ≤ 0) (h2 : dl s rs y z ≤ 0) : dl s rs x z ≤ 0 := by
 unfold dl kN at *
 split
 ·simp
 ·rename_i c
  rw [if_neg c] at h1 h2
  exact zH _ _ _ h1 h2
theorem gx {s : Sch} {rs : List (List V)} (h : cT s rs = true) : cC s = true ∧ ∀ r ∈ rs, dW s r = true := by
 unfold cT at h
 simp only [Bool.and_eq_true, Bool.not_eq_true', List.any_eq_false] at h
 exact ⟨h.1, fun r hr => by have := h.2 r hr; simpa using this⟩
theorem l7 {s : Sch} {r : List V} (h : dW s r = true) : r.length = s.cols.length := by
 unfold dW at h
 simp only [Bool.and_eq_true, decide_eq_true_eq] at h
 exact h.2.1
theorem mQ {s : Sch} (h : cC s = true) : s.sort < s.cols.length ∧ s.cols.length ≤ 8 ∧ 1 ≤ s.cols.length ∧ -1 ≤ s.sort := by
 unfold cC at h
 simp only [Bool.and_eq_true, decide_eq_true_eq] at h
 exact ⟨h.2.2.2.2.2, h.2.2.1, h.2.1, h.2.2.2.2.1⟩
theorem yy {s : Sch} {rs : List (List V)} (h : cT s rs = true) : ∀ r ∈ rs, s.sort < r.length := fun r hr => by
 obtain ⟨h1, h2⟩ := gx h
 rw [l7 (h2 r hr)]
 exact (mQ h1).1
def mh (d : DV) (l : List Nat) : Prop := (d = .nils ∧ l = []) ∨ d = .fresh 3 1 (l.map iD)
structure OrdZ (s : Sch) (rs : List (List V)) (Z : List Nat) : Prop where
 perm : Z.Perm (List.range rs.length)
 lx : Z.Pairwise (Lx (dl s rs))
theorem NT {Hb : Zb} {b n : Nat} (hn : n ≤ 1000000) :
 ∀ (k i : Nat) (h : Zb) (d : DV), n - i ≤ k → i ≤ n → aT 3 1 Hb h d ((List.range i).map iD) → ∃ ex h' d', C X (.loop rY) [(5, .ref b 0), (6, d), (15, .int .i64 n), (16, .int .i64 i)] h = some (.exit 0, (5, .ref b 0) :: (6, d') :: ex, h') ∧ aT 3 1 Hb h' d' ((List.range n).map iD) := by
 intro k
 induction k with
 | zero =>
  intro i h d hk hi hg
  obtain rfl : i = n := by omega
  refine ⟨[(15, .int .i64 i), (16, .int .i64 i), (17, .bool false)], h, d, ?_, hg⟩
  rw [Zc]
  unfold rY
  refine rn trivial ?_
  rw [Zw]
  simp [Za, lk]
 | succ k ih =>
  intro i h d hk hi hg
  by_cases c : i < n
  case neg => exact ih i h d (by omega) hi hg
  have c' : (i : Int) < (n : Int) := by omega
  obtain ⟨I, cA⟩ : ∃ I, I = i + 1 := ⟨_, rfl⟩
  have z1 : IntKind.i64.wrap ((i : Int) + 1) = (I : Int) := wr
  obtain ⟨d2, h2, ha, hg2⟩ := hg.app 8 [.int .i64 (i : Nat)] (by simp; omega)
  have hw := hg.vw
  rw [show (List.range i).map iD ++ [DV.int .i64 (i : Nat)] = (List.range I).map iD by rw [cA, List.range_succ, List.map_append]; rfl] at hg2
  have y1 : ∀ h, bL [.int .i64 (i : Nat)] h = some ([.int .i64 (i : Nat)], h) := fun _ => rfl
  have y2 : Wc 1 (.int .i64 (i : Nat)) := by simp [Wc, DV.cells, DV.one]
  have y3 : Nr (.int .i64 (i : Nat)) := .int _ _
  have y4 : ∀ h, aM h 1 (.list 1 [.int .i64 (i : Nat)] true) = some [.int .i64 (i : Nat)] := fun _ => rfl
  have hs : C X rY [(5, .ref b 0), (6, d), (15, .int .i64 n), (16, .int .i64 i)] h = some (.norm, [(5, .ref b 0), (6, d2), (15, .int .i64 n), (16, .int .i64 I)], h2) := by
   clear hg hg2 ih
   unfold rY
   refine rn (gI @c @c' @z1 @y1 @y2 @y3 @y4 @hw @ha) ?_
   simp [Za, lk]
  rw [Zc, hs, ZB]
  exact ih I h2 d2 (by omega) (by omega) hg2
theorem Ka {H : Zb} {Cd A : DV} {s : Sch} {ds : List DV} {rs : List (List V)} (hC : ∀ g, vw g 3 Cd = some (s.cols.map Cl.d)) (aI : Cd.one = true) (hl : s.cols.length ≤ 1000) (aK : A.one = true) (hA : ∀ G, vw (H ++ G) 1 A = some ds) (hE : bg H ds rs) (hb : rs.length ≤ 1000) :
 (cT s rs = false ∧ E X 17 [Yi Cd s, A] H = some (.nils, H)) ∨ (cT s rs = true ∧ ∃ d Z, E X 17 [Yi Cd s, A] H = some (d, H) ∧ mh d Z ∧ OrdZ s rs Z) := by
 obtain ⟨HB, aN⟩ : ∃ HB, HB = H ++ [HO.box 24 [Cd, .int .i64 s.key, .int .i64 s.cmp, .int .i64 s.del, .int .i64 s.sort], .box 66 [Cd, .int .i64 s.key, .int .i64 s.cmp, .int .i64 s.del, .int .i64 s.sort, A]] := ⟨_, rfl⟩
 have bR : ∀ G, vw (HB ++ G) 1 A = some ds := fun G => by rw [aN, List.append_assoc]; exact hA _
 have fU : bg HB ds rs := by rw [aN]; exact hE.ext _
 have iJ := yP (H := HB) (A := A) hC hl bR fU hb
 have g5 : HB[H.length + 1]? = some (.box 66 [Cd, .int .i64 s.key, .int .i64 s.cmp, .int .i64 s.del, .int .i64 s.sort, A]) := by rw [aN]; simp
 have fA : A.isU = false := by cases A <;> first | rfl | simp [DV.one] at aK
 have cG := dD aK
 unfold DV.cells at cG
 unfold DV.isU at fA
 cases hf : cT s rs
 ·left
  refine ⟨rfl, ?_⟩
  rw [hf] at iJ
  clear bR fU hA hE
  subst aN
  obtain ⟨cols, k1, k2, k3, k4⟩ := s
  simp only [Yi, Yj] at *
  rw [Zz (X := X) _ G4 _ rfl rfl]; unfold G4
  refine ah (ej @aI @aK @fA @cG @iJ) ?_
  exact re @aK
 ·right
  refine ⟨rfl, ?_⟩
  rw [hf] at iJ
  have qW : vw HB 1 A = some ds := by have := bR []; rwa [List.append_nil] at this
  have bj : ds.length = rs.length := hE.1
  obtain ⟨ex, h3, d3, hc, hg⟩ := NT (Hb := HB) (b := H.length + 1) (n := rs.length) (by omega) rs.length 0 HB .nils (by omega) (by omega) aT.zero
  rw [show ((0 : Nat) : Int) = 0 from rfl] at hc
  have Fz := jN hg.1 g5
  have key : ∃ Z h4 d, E X 40 [d3, .func 41 [.agg [Cd, .int .i64 s.key, .int .i64 s.cmp, .int .i64 s.del, .int .i64 s.sort, A]] []] h3 = some (.tup [], h4) ∧ fin H h4 [d3] = (d, H) ∧ mh d Z ∧ OrdZ s rs Z := by
   have hpre : HB.take H.length = H := by rw [aN]; exact List.take_left
   have hsort := yy hf
   rcases hg.2 with ⟨rfl, hx⟩ | ⟨g, o, rfl, ho, SK⟩
   ·have h0 : rs.length = 0 := by simpa using congrArg List.length hx
    have hnil := List.eq_nil_of_length_eq_zero h0
    refine ⟨[], h3, .nils, Mx _ _, ?_, .inl ⟨rfl, rfl⟩, ⟨by rw [h0]; exact List.Perm.refl _, .nil⟩⟩
    rcases (hg.base hpre).fin (by rw [hx]; simp) with ⟨_, h⟩ | ⟨h, _⟩
    ·exact h
    ·exact absurd rfl h
   ·have fQ : ((List.range rs.length).map iD).length = rs.length := by simp
    rw [fQ]
    have hr := (List.getElem?_eq_some_iff.1 SK).1
    have hself : hI h3 o g (List.range rs.length) = h3 := by
     unfold hI
     apply List.ext_getElem?
     intro i
     by_cases e : o = i
     ·subst e; rw [List.getElem?_set_self hr, SK]
     ·rw [List.getElem?_set_ne e]
    have Ku : ∀ l, (hI h3 o g l).take HB.length = HB := fun l => by unfold hI; rw [List.take_set_of_le ho]; exact hg.1
    have Ud : CmpI h3 o g rs.length 41 (.agg [Cd, .int .i64 s.key, .int .i64 s.cmp, .int .i64 s.del, .int .i64 s.sort, A]) (dl s rs) := by
     refine ⟨fun l i k hi hk => ?_, oN s rs, qu s rs⟩
     obtain ⟨G, hG⟩ := take_split (Ku l)
     have Gg := J6 (H := hI h3 o g l) (Cd := Cd) (s := s) (A := A) (ds := ds) (rs := rs) (i := i) (k := k) (fun G2 => by rw [hG, List.append_assoc]; exact bR _) (by rw [hG]; exact fU.ext _) (List.getElem?_eq_getElem hi) (List.getElem?_eq_getElem hk) (hsort _ (List.getElem_mem _)) (hsort _ (List.getElem_mem _))
     rw [Gg]
     simp [dl, List.getD_eq_getElem?_getD, hi, hk]
    obtain ⟨Z, e, z1, z2⟩ := Rh Ud hr (by omega) (l := List.range rs.length) (by simp) (fun y hy => List.mem_range.1 hy) List.pairwise_lt_range
    rw [hself] at e
    have ow : Z.length = rs.length := by rw [z1.length_eq]; simp
    have Vw : aT 3 1 HB (hI h3 o g Z) (.row o g 0 rs.length false) (Z.map iD) := ⟨Ku Z, .inr ⟨g, o, by rw [List.length_map, ow], ho, by unfold hI; rw [List.getElem?_set_self hr]⟩⟩
    have hnr : ∀ x ∈ Z.map iD, Nr x := fun x hx => by
     obtain ⟨y, _, rfl⟩ := List.mem_map.1 hx
     exact .int _ _
    rcases (Vw.base hpre).fin hnr with ⟨h, _⟩ | ⟨_, aD⟩
    ·cases h
    ·exact ⟨Z, _, _, e, aD, .inr rfl, ⟨z1, z2⟩⟩
  obtain ⟨Z, h4, d, yD, aD, VH, OY⟩ := key
  refine ⟨d, Z, ?_, VH, OY⟩
  clear bR fU hA hE hg
  subst aN
  obtain ⟨cols, k1, k2, k3, k4⟩ := s
  simp only [Yi, Yj] at *
  rw [Zz (X := X) _ G4 _ rfl rfl]; unfold G4
  refine ah (fV @aI @aK @fA @cG @iJ @qW @bj) ?_
  refine aj ?_
  rw [hc]
  refine ah (aL @Fz @yD) ?_
  simp only [Zn, ZW, lk, Za, List.map_cons, List.map_nil, reduceIte, Option.map_some, Nat.reduceEqDiff, aD]
set_option linter.unusedSectionVars false
structure BuiltC (ls : List V) (c : RC) : Prop where
 n : c.n = (ls.length : Int)
 bs : c.bs = pack (ls.map (place c.ys)) (wC c.ys.length)
 up : Up c.ys
 mem : ∀ x, x ∈ c.ys ↔ x ∈ ls
 yl : c.ys.length ≤ ls.length
 may : ∀ x ∈ ls, aG x = true
 dict : eU c.D c.ys
 B : c.B = .list 1 (c.bs.map bD) false
theorem A7 {s : ByteArray} (h : (s == ⟨#[]⟩) = true) : s = ⟨#[]⟩ := by
 have h' : (s.data == #[]) = true := h
 cases s
 simp at h' ⊢
 exact h'
theorem Ec : ∀ (l : List V) (p : V), Up (p :: l) → (∀ x ∈ l, aG x = true) → dY (some p) l = true
 | [], p, _, _ => rfl
 | a :: l, p, h, hm => by
  have h1 := List.pairwise_cons.1 h
  simp only [dY, Bool.and_eq_true, decide_eq_true_eq]
  exact ⟨hm a (by simp), h1.1 a (by simp), Ec l a h1.2 (fun x hx => hm x (by simp [hx]))⟩
theorem QB {l : List V} (h : Up l) (hm : ∀ x ∈ l, aG x = true) : dY none l = true := by
 cases l with
 | nil => rfl
 | cons a l =>
  simp only [dY, Bool.and_eq_true]
  exact ⟨hm a (by simp), Ec l a h (fun x hx => hm x (by simp [hx]))⟩
theorem uC {v : V} (h : aG v = true) : Sm v := by
 unfold aG at h
 unfold Sm
 by_cases h1 : v.k = 1
 ·simp [h1] at h
  rw [A7 h.1]; decide
 by_cases h2 : v.k = 2
 ·simp [h1, h2] at h
  omega
 by_cases h3 : v.k = 3
 ·simp [h1, h2, h3] at h
  rw [A7 h.2]; decide
 by_cases h4 : v.k = 0
 ·simp [h1, h2, h3, h4] at h
  rw [A7 h.1.2]; decide
 ·simp [h1, h2, h3, h4] at h
theorem Qz {n : Nat} (h : n ≤ 200) : wC n ≤ 8 := by
 have h1 := iK (n - 1) 255 (by omega)
 have h2 : wN 255 = 8 := by decide
 unfold wC; omega
section
variable {ls : List V} {c : RC} (h : BuiltC ls c) (hl : ls.length ≤ 200)
include h hl
theorem BuiltC.il_w : ∀ p ∈ ls.map (place c.ys), wN p ≤ wC c.ys.length ∧ p < c.ys.length := fun p hp => by
 obtain ⟨x, hx, rfl⟩ := List.mem_map.1 hp
 have hq := (List.getElem?_eq_some_iff.1 (eG h.up ((h.mem x).2 hx)).1).1
 exact ⟨iK _ _ (by omega), hq⟩
theorem BuiltC.ids : fP c.bs (wC c.ys.length) c.n.toNat = ls.map (place c.ys) := by
 rw [h.bs, h.n, Int.toNat_natCast]
 unfold fP
 apply List.ext_getElem
 ·simp
 ·intro i h1 h2
  simp only [List.getElem_map, List.getElem_range]
  have hi : i < (ls.map (place c.ys)).length := h2
  have := xW (ls.map (place c.ys)) (wC c.ys.length) i hi (h.il_w hl _ (List.getElem_mem hi)).1
  rw [this]
  simp
theorem BuiltC.pad : tF c.bs (wC c.ys.length) c.n.toNat := by
 rw [h.bs, h.n, Int.toNat_natCast]
 refine ⟨by rw [gA, List.length_map], fun h0 => ?_⟩
 have := xU (ls.map (place c.ys)) (wC c.ys.length) (by rw [List.length_map]; exact h0)
 rw [List.length_map] at this
 rw [gA, List.length_map]
 exact Nat.div_eq_of_lt this
theorem BuiltC.ok : c.Ok := by
 have hw := Qz (n := c.ys.length) (by have := h.yl; omega)
 refine ⟨h.dict, by have := h.yl; omega, fun x hx => uC (h.may x ((h.mem x).1 hx)), .inr h.B, by rw [h.bs]; exact pC _ _, ?_⟩
 rw [h.bs, gA, List.length_map]
 have : ls.length * wC c.ys.length ≤ 200 * 8 := Nat.mul_le_mul hl hw
 omega
theorem BuiltC.okC : okC c.n c.ys c.bs := by
 have hn := h.n
 refine ⟨by omega, by omega, QB h.up (fun x hx => h.may x ((h.mem x).1 hx)), h.pad hl, fun p hp => ?_, fun k hk => ?_⟩
 ·rw [h.ids hl] at hp
  exact (h.il_w hl p hp).2
 ·rw [h.ids hl]
  have hx := List.getElem_mem hk
  refine List.mem_map.2 ⟨c.ys[k], (h.mem _).1 hx, ?_⟩
  exact yU h.up (List.getElem?_eq_getElem hk)
theorem BuiltC.val {i : Nat} {v : V} (hv : ls[i]? = some v) : c.sc.val i = v := by
 have e : c.sc.il = ls.map (place c.ys) := h.ids hl
 unfold SC.val
 rw [e]
 have e2 : c.sc.ys = c.ys := rfl
 rw [e2]
 have h1 : (ls.map (place c.ys)).getD i 0 = place c.ys v := by simp [List.getD_eq_getElem?_getD, hv]
 rw [h1, List.getD_eq_getElem?_getD, (eG h.up ((h.mem v).2 (List.mem_of_getElem? hv))).1]
 rfl
end
theorem BuiltC.same {ls : List V} {c d : RC} (h : BuiltC ls c) (h' : BuiltC ls d) : c.n = d.n ∧ c.ys = d.ys ∧ c.bs = d.bs := by
 have e : c.ys = d.ys := Eb _ _ h.up h'.up (fun v => by rw [h.mem, h'.mem])
 refine ⟨by rw [h.n, h'.n], e, by rw [h.bs, h'.bs, e]⟩
def qL (s : Sch) (p1 p2 p3 p4 : Int) (rs : List (List V)) (zs : List Int) : Prop := aX p1 p2 p3 p4 = true ∧ cT s rs = true ∧ zs.length = rs.length ∧ o7 p3 p4 zs
def KU (d : DV) (cs : List RC) : Prop := (d = .nils ∧ cs = []) ∨ d = .list 3 (cs.map RC.d) false
theorem KU.vw {d : DV} {cs : List RC} (h : KU d cs) (g : Zb) : vw g 3 d = some (cs.map RC.d) := by
 rcases h with ⟨rfl, rfl⟩ | rfl <;> rfl
def aV (rs : List (List V)) (Z : List Nat) (k : Nat) : List V := Z.map fun i => (rs.getD i []).getD k v0
structure BldC (s : Sch) (rs : List (List V)) (Z : List Nat) (cs : List RC) : Prop where
 len : cs.length = s.cols.length
 col : ∀ k c, cs[k]? = some c → BuiltC (aV rs Z k) c
theorem MP {H : Zb} {Cd A O Of Cs : DV} {s : Sch} {p1 p2 p3 p4 : Int} {ds : List DV} {rs : List (List V)} {zs : List Int} (hC : ∀ g, vw g 3 Cd = some (s.cols.map Cl.d)) (aI : Cd.one = true) (hl : s.cols.length ≤ 1000) (aK : A.one = true) (hA : ∀ G, vw (H ++ G) 1 A = some ds) (hE : bg H ds rs) (hb : rs.length ≤ 200) (hO : ∀ G, vw (H ++ G) 1 O = some (zs.map intD)) (dh : zs.length ≤ 1000) (hn : ¬ qL s p1 p2 p3 p4 rs zs) :
 E X 13 [Yi Cd s, .agg [.int .i64 p1, .int .i64 p2, .int .i64 p3, .int .i64 p4, Of, Cs], A, O] H = some (.tup [.agg [.int .i64 0, .int .i64 0, .int .i64 0, .int .i64 0, .nils, .nils], .nils, .int .i64 1], H) := by
 obtain ⟨HB, aN⟩ : ∃ HB, HB = H ++ [HO.box 24 [Cd, .int .i64 s.key, .int .i64 s.cmp, .int .i64 s.del, .int .i64 s.sort], .box 28 [.int .i64 p1, .int .i64 p2, .int .i64 p3, .int .i64 p4, Of, Cs], .box 28 [.int .i64 0, .int .i64 0, .int .i64 0, .int .i64 0, .nils, .nils]] := ⟨_, rfl⟩
 have bR : ∀ G, vw (HB ++ G) 1 A = some ds := fun G => by rw [aN, List.append_assoc]; exact hA _
 have j8 : ∀ G, vw (HB ++ G) 1 O = some (zs.map intD) := fun G => by rw [aN, List.append_assoc]; exact hO _
 have hA0 : vw HB 1 A = some ds := by have := bR []; rwa [List.append_nil] at this
 have oz : vw HB 1 O = some (zs.map intD) := by have := j8 []; rwa [List.append_nil] at this
 have fU : bg HB ds rs := by rw [aN]; exact hE.ext _
 have fI := za p1 p2 p3 p4 Of Cs
 have iJ := yP (H := HB) (A := A) hC hl bR fU (by omega)
 obtain ⟨wS, wF, sE⟩ := CY (H := HB) (L := O) (Of := Of) (Cs := Cs) (p1 := p1) (p2 := p2) (p3 := p3) (p4 := p4) j8 dh
 have fA : A.isU = false := by cases A <;> first | rfl | simp [DV.one] at aK
 have cG := dD aK
 unfold DV.cells at cG
 unfold DV.isU at fA
 have bj : ds.length = rs.length := hE.1
 have pW : (zs.map intD).length = zs.length := List.length_map _
 cases h1 : aX p1 p2 p3 p4
 ·rw [h1] at fI
  clear bR j8 fU hA hO hE iJ wF sE hn
  subst aN
  obtain ⟨cols, k1, k2, k3, k4⟩ := s
  simp only [Yi, Yj] at *
  rw [Zz (X := X) _ qm _ rfl rfl]; unfold qm; exact dO (ej @aI @aK @fA @cG @fI)
 cases h2 : cT s rs
 ·rw [h1] at fI
  rw [h2] at iJ
  clear bR j8 fU hA hO hE wF sE hn
  subst aN
  obtain ⟨cols, k1, k2, k3, k4⟩ := s
  simp only [Yi, Yj] at *
  rw [Zz (X := X) _ qm _ rfl rfl]; unfold qm; exact dO (gJ @aI @aK @fA @cG @fI @iJ)
 rw [h1] at fI
 rw [h2] at iJ
 by_cases h3 : zs.length = rs.length
 case neg =>
  have Aw : ((zs.length : Int) != (rs.length : Int)) = true := by simp only [bne_iff_ne, ne_eq]; omega
  clear bR j8 fU hA hO hE wF sE hn
  subst aN
  obtain ⟨cols, k1, k2, k3, k4⟩ := s
  simp only [Yi, Yj] at *
  rw [Zz (X := X) _ qm _ rfl rfl]; unfold qm; exact dO (dK @aI @aK @fA @cG @fI @iJ @hA0 @oz @bj @pW @Aw)
 have h4 : wS = false := by
  cases wS
  ·rfl
  ·exact absurd ⟨h1, h2, h3, sE.1 rfl⟩ hn
 rw [h4] at wF
 clear bR j8 fU hA hO hE sE hn
 subst aN
 obtain ⟨cols, k1, k2, k3, k4⟩ := s
 simp only [Yi, Yj] at *
 rw [Zz (X := X) _ qm _ rfl rfl]; unfold qm; exact dO (iG @aI @aK @fA @cG @fI @iJ @wF @hA0 @oz @bj @pW @h3)
def cK (N T sz : Nat) (h : Zb) (d : DV) (xs : List DV) : Prop := (d = .nils ∧ xs = []) ∨ ∃ g o, d = .row o g 0 xs.length false ∧ N ≤ o ∧ (h[o]? = some (.row T sz g xs) ∨ h[o]? = some (.frz T sz g xs))
def dN (sz : Nat) (d : DV) (xs : List DV) : Prop := (d = .nils ∧ xs = []) ∨ d = .list sz xs false
theorem cK.fz {N T sz : Nat} {h : Zb} {d : DV} {xs : List DV} (hr : cK N T sz h d xs) (hn : ∀ x ∈ xs, Nr x) : ∃ d' h', aO N h false d = some (d', h') ∧ dN sz d' xs ∧ ∀ T' cF d2 ys, cK N T' cF h d2 ys → cK N T' cF h' d2 ys := by
 rcases hr with ⟨rfl, rfl⟩ | ⟨g, o, rfl, ho, hx⟩
 ·exact ⟨.nils, h, rfl, .inl ⟨rfl, rfl⟩, fun _ _ _ _ h => h⟩
 ·rcases hx with hx | hx
  ·refine ⟨.list sz xs false, h.set o (.frz T sz g xs), ?_, .inr rfl, fun T' cF d2 ys h2 => ?_⟩
   ·simp only [aO]
    rw [if_neg (by omega), hx]
    simp only
    rw [if_pos ⟨rfl, by simp, hn⟩]
    simp
   ·rcases h2 with h2 | ⟨g2, o2, rfl, Oz, oo⟩
    ·exact .inl h2
    ·refine .inr ⟨g2, o2, rfl, Oz, ?_⟩
     have hlt := (List.getElem?_eq_some_iff.1 hx).1
     by_cases e : o = o2
     ·subst e
      rw [List.getElem?_set_self hlt]
      rw [hx] at oo
      rcases oo with oo | oo <;> injection oo with oo
      ·injection oo with e1 e2 e3 e4
       subst e1; subst e2; subst e3; subst e4
       exact .inr rfl
      ·cases oo
     ·rw [List.getElem?_set_ne e]; exact oo
  ·refine ⟨.list sz xs false, h, ?_, .inr rfl, fun _ _ _ _ h => h⟩
   simp only [aO]
   rw [if_neg (by omega), hx]
   simp only
   rw [if_pos ⟨rfl, by simp, hn⟩]
   simp
theorem aT.is {T sz : Nat} {H h : Zb} {d : DV} {xs : List DV} (hg : aT T sz H h d xs) : cK H.length T sz h d xs := by
 rcases hg.2 with h1 | ⟨g, o, h1, h2, h3⟩
 ·exact .inl h1
 ·exact .inr ⟨g, o, h1, h2, .inl h3⟩
theorem cK.low {N M T sz : Nat} {h : Zb} {d : DV} {xs : List DV} (hr : cK N T sz h d xs) (hm : M ≤ N) : cK M T sz h d xs := by
 rcases hr with h1 | ⟨g, o, h1, h2, h3⟩
 ·exact .inl h1
 ·exact .inr ⟨g, o, h1, by omega, h3⟩
theorem Cr {H h : Zb} {p1 p2 p3 p4 : Int} {Oq Cd R : DV} {os cs rs : List DV} (ht : h.take H.length = H) (hO : cK H.length 3 1 h Oq os) (hC : cK H.length 70 3 h Cd cs) (hR : cK H.length 3 1 h R rs) (nO : ∀ x ∈ os, Nr x) (nC : ∀ x ∈ cs, Nr x) (nR : ∀ x ∈ rs, Nr x) :
 ∃ O' C' R', fin H h [.agg [.int .i64 p1, .int .i64 p2, .int .i64 p3, .int .i64 p4, Oq, Cd], R, .int .i64 0] = (.tup [.agg [.int .i64 p1, .int .i64 p2, .int .i64 p3, .int .i64 p4, O', C'], R', .int .i64 0], H) ∧ dN 1 O' os ∧ dN 3 C' cs ∧ dN 1 R' rs := by
 obtain ⟨O', h1, f1, l1, k1⟩ := hO.fz nO
 obtain ⟨C', h2, f2, l2, k2⟩ := (k1 _ _ _ _ hC).fz nC
 obtain ⟨R', h3, f3, l3, k3⟩ := (k2 _ _ _ _ (k1 _ _ _ _ hR)).fz nR
 refine ⟨O', C', R', ?_, l1, l2, l3⟩
 have g3 : aJ H.length h2 false R = some (R', h3) := by
  rcases hR with ⟨rfl, _⟩ | ⟨g, o, rfl, _, _⟩ <;> exact f3
 simp only [fin]
 rw [if_pos ht]
 have i0 : ∀ (p : Int) (g : Zb), aO H.length g false (.int .i64 p) = some (.int .i64 p, g) := fun _ _ => rfl
 have i1 : ∀ (p : Int) (g : Zb), aJ H.length g false (.int .i64 p) = some (.int .i64 p, g) := fun _ _ => rfl
 have g1 : ∀ cs, aJ H.length h false (.agg cs) = match cZ H.length cs h with | some (cs', h') => some (.agg cs', h') | none => none := fun _ => rfl
 simp only [bq, g1, cZ, i0, i1, f1, f2, g3]
section
variable {HS : Zb} {o T : Nat}
theorem aT.boxed {T1 sz : Nat} {c c' : List DV} {h : Zb} {d : DV} {xs : List DV} (hg : aT T1 sz (HS.set o (.box T c)) h d xs) (ho : o < HS.length) : aT T1 sz (HS.set o (.box T c')) (h.set o (.box T c')) d xs := by
 obtain ⟨ht, hr⟩ := hg
 rw [List.length_set] at ht
 refine ⟨?_, ?_⟩
 ·rw [List.length_set, List.take_set, ht, List.set_set]
 ·rcases hr with h1 | ⟨g, q, h1, h2, h3⟩
  ·exact .inl h1
  ·rw [List.length_set] at h2
   exact .inr ⟨g, q, h1, by rw [List.length_set]; exact h2, by rw [List.getElem?_set_ne (by omega)]; exact h3⟩
theorem aT.inbox {T1 sz : Nat} {c : List DV} {h : Zb} {d : DV} {xs : List DV} (hg : aT T1 sz (HS.set o (.box T c)) h d xs) (ho : o < HS.length) : h[o]? = some (.box T c) := jN hg.1 (by rw [List.getElem?_set_self ho])
end
theorem aT.one {T sz : Nat} {H h : Zb} {d : DV} {xs : List DV} (hg : aT T sz H h d xs) : d.one = true := by
 rcases hg.2 with ⟨rfl, _⟩ | ⟨g, o, rfl, _, _⟩ <;> rfl
abbrev aS (p1 p2 p3 p4 : Int) (O C : DV) : List DV := [.int .i64 p1, .int .i64 p2, .int .i64 p3, .int .i64 p4, O, C]
theorem Ij {HS : Zb} {A O R : DV} {a b o n : Nat} {p1 p2 p3 p4 : Int} {Z : List Nat} {zs : List Int} (ho : o < HS.length) (hR : ∀ c h, h.take HS.length = HS.set o (.box 28 c) → vw h 1 R = some (Z.map iD) ∧ vw h 1 O = some (zs.map intD)) (hZ : Z.length = n) (hn : n ≤ 1000) (hlt : ∀ z ∈ Z, z < zs.length) :
 ∀ (k i : Nat) (h : Zb) (d : DV), n - i ≤ k → i ≤ n → aT 3 1 (HS.set o (.box 28 (aS p1 p2 p3 p4 d .nils))) h d ((Z.take i).map fun z => intD (zs.getD z 0)) →
  ∃ ex h' d', C X (.loop se) [(2, A), (3, O), (4, .ref a 0), (8, .ref b 0), (11, .ref o 0), (12, R), (57, R), (58, .int .i64 n), (59, .int .i64 i)] h = some (.exit 1, (2, A) :: (3, O) :: (4, .ref a 0) :: (8, .ref b 0) :: (11, .ref o 0) :: (12, R) :: ex, h') ∧ aT 3 1 (HS.set o (.box 28 (aS p1 p2 p3 p4 d' .nils))) h' d' (Z.map fun z => intD (zs.getD z 0)) := by
 intro k
 induction k with
 | zero =>
  intro i h d hk hi hg
  obtain rfl : i = n := by omega
  refine ⟨[(57, R), (58, .int .i64 i), (59, .int .i64 i), (60, .bool false)], h, d, ?_, by rwa [List.take_of_length_le (by omega)] at hg⟩
  rw [Zc]
  unfold se
  refine rn trivial ?_
  rw [Zw]
  simp [Za, lk]
 | succ k ih =>
  intro i h d hk hi hg
  by_cases c : i < n
  case neg => exact ih i h d (by omega) hi hg
  have c' : (i : Int) < (n : Int) := by omega
  obtain ⟨I, cA⟩ : ∃ I, I = i + 1 := ⟨_, rfl⟩
  have z1 : IntKind.i64.wrap ((i : Int) + 1) = (I : Int) := wr
  obtain ⟨z, hz⟩ : ∃ z, Z[i]? = some z := ⟨Z[i]'(by omega), List.getElem?_eq_getElem _⟩
  have dh := hlt z (List.mem_of_getElem? hz)
  obtain ⟨y, hy⟩ : ∃ y, zs[z]? = some y := ⟨zs[z]'dh, List.getElem?_eq_getElem _⟩
  have sB : zs.getD z 0 = y := by rw [List.getD_eq_getElem?_getD, hy]; rfl
  have ht := hg.1
  rw [List.length_set] at ht
  obtain ⟨vR, vO⟩ := hR _ h ht
  obtain ⟨d2, h2, ha, hg2⟩ := hg.app 8 [.int .i64 y] (by simp; omega)
  have uJ := hg.inbox ho
  have Dp := hg2.inbox ho
  have dH := hg2.one
  have hc2 := dD dH
  unfold DV.cells at hc2
  have jg := hg2.boxed (c' := aS p1 p2 p3 p4 d2 .nils) ho
  have hw := hg.vw
  have bh := hg.one
  rw [show ((Z.take i).map fun z => intD (zs.getD z 0)) ++ [DV.int .i64 y] = (Z.take I).map fun z => intD (zs.getD z 0) by
   rw [cA, ← List.take_append_getElem (by omega : i < Z.length), List.map_append]
   rw [List.getElem?_eq_getElem (by omega)] at hz
   injection hz with hz
   simp only [List.map_cons, List.map_nil, hz, sB]] at jg
  have y1 : ∀ h, bL [.int .i64 y] h = some ([.int .i64 y], h) := fun _ => rfl
  have y2 : Wc 1 (.int .i64 y) := by simp [Wc, DV.cells, DV.one]
  have y3 : Nr (.int .i64 y) := .int _ _
  have y4 : ∀ h, aM h 1 (.list 1 [.int .i64 y] true) = some [.int .i64 y] := fun _ => rfl
  have zi : i < (Z.map iD).length := by simp; omega
  have zz : z < (zs.map intD).length := by simp; omega
  have q1 : (Z.map iD)[i]? = some (.int .i64 (z : Nat)) := by rw [List.getElem?_map, hz]; rfl
  have q2 : (zs.map intD)[z]? = some (.int .i64 y) := by rw [List.getElem?_map, hy]; rfl
  have ig : (Z.map iD)[i] = .int .i64 (z : Nat) := by rw [List.getElem?_eq_getElem zi] at q1; injection q1
  have tZ : (zs.map intD)[z] = .int .i64 y := by rw [List.getElem?_eq_getElem zz] at q2; injection q2
  have hs : C X se [(2, A), (3, O), (4, .ref a 0), (8, .ref b 0), (11, .ref o 0), (12, R), (57, R), (58, .int .i64 n), (59, .int .i64 i)] h = some (.norm, [(2, A), (3, O), (4, .ref a 0), (8, .ref b 0), (11, .ref o 0), (12, R), (57, R), (58, .int .i64 n), (59, .int .i64 I)], h2.set o (.box 28 (aS p1 p2 p3 p4 d2 .nils))) := by
   clear hg hg2 jg ih ht hR hlt hz hy sB
   generalize ((Z.take i).map fun z => intD (zs.getD z 0)) = xs at hw ha
   generalize Z.map iD = Zd at *
   generalize zs.map intD = zd at *
   unfold se
   refine ah (I4 @c @c' @z1 @vR @vO @zi @zz @q1 @q2 @ig @tZ @uJ @bh @y1 @y2 @y3 @y4 @hw @ha @Dp @dH @hc2) ?_
   simp [Za, lk]
  rw [Zc, hs, ZB]
  exact ih I _ d2 (by omega) (by omega) jg
theorem Ih {Hh : Zb} {A R : DV} {b o n kk nc : Nat} {Z : List Nat} {ds : List DV} {rs : List (List V)} (hR : ∀ h : Zb, h.take Hh.length = Hh → vw h 1 R = some (Z.map iD) ∧ vw h 1 A = some ds ∧ ∀ (i : Nat) (d : DV) (vs : List V), ds[i]? = some d → rs[i]? = some vs → vw h 4 d = some (vs.map V.d) ∧ d.one = true) (hZ : Z.length = n) (hn : n ≤ 1000) (bj : ds.length = rs.length) (hlt : ∀ z ∈ Z, z < rs.length) (hkk : ∀ r ∈ rs, kk < r.length) :
 ∀ (k i : Nat) (h : Zb) (d : DV), n - i ≤ k → i ≤ n → aT 56 4 Hh h d ((aV rs (Z.take i) kk).map V.d) →
  ∃ ex h' d', C X (.loop r9) [(2, A), (8, .ref b 0), (11, .ref o 0), (12, R), (15, .int .i64 kk), (16, d), (75, .int .i64 nc), (76, .int .i64 kk), (79, R), (80, .int .i64 n), (81, .int .i64 i)] h = some (.exit 5, (2, A) :: (8, .ref b 0) :: (11, .ref o 0) :: (12, R) :: (15, .int .i64 kk) :: (16, d') :: (75, .int .i64 nc) :: (76, .int .i64 kk) :: ex, h') ∧ aT 56 4 Hh h' d' ((aV rs Z kk).map V.d) := by
 intro k
 induction k with
 | zero =>
  intro i h d hk hi hg
  obtain rfl : i = n := by omega
  refine ⟨[(79, R), (80, .int .i64 i), (81, .int .i64 i), (82, .bool false)], h, d, ?_, by rwa [List.take_of_length_le (by omega)] at hg⟩
  rw [Zc]
  unfold r9
  refine rn trivial ?_
  rw [Zw]
  simp [Za, lk]
 | succ k ih =>
  intro i h d hk hi hg
  by_cases c : i < n
  case neg => exact ih i h d (by omega) hi hg
  have c' : (i : Int) < (n : Int) := by omega
  obtain ⟨I, cA⟩ : ∃ I, I = i + 1 := ⟨_, rfl⟩
  have z1 : IntKind.i64.wrap ((i : Int) + 1) = (I : Int) := wr
  obtain ⟨z, hz⟩ : ∃ z, Z[i]? = some z := ⟨Z[i]'(by omega), List.getElem?_eq_getElem _⟩
  have dh := hlt z (List.mem_of_getElem? hz)
  obtain ⟨r, hr⟩ : ∃ r, rs[z]? = some r := ⟨rs[z]'dh, List.getElem?_eq_getElem _⟩
  have Fa := hkk r (List.mem_of_getElem? hr)
  obtain ⟨v, hv⟩ : ∃ v, r[kk]? = some v := ⟨r[kk]'Fa, List.getElem?_eq_getElem _⟩
  obtain ⟨e, he⟩ : ∃ e, ds[z]? = some e := ⟨ds[z]'(by omega), List.getElem?_eq_getElem _⟩
  have E8 : (rs.getD z []).getD kk v0 = v := by simp [List.getD_eq_getElem?_getD, hr, hv]
  obtain ⟨vR, vA, vE⟩ := hR h hg.1
  obtain ⟨vr, er⟩ := vE z e r he hr
  have hcl : ((aV rs (Z.take i) kk).map V.d).length ≤ 1000 := by unfold aV; simp; omega
  obtain ⟨d2, h2, ha, hg2⟩ := hg.app 40 [v.d] (by simp only [List.length_cons, List.length_nil]; omega)
  have hw := hg.vw
  rw [show (aV rs (Z.take i) kk).map V.d ++ [v.d] = (aV rs (Z.take I) kk).map V.d by
   unfold aV
   rw [cA, ← List.take_append_getElem (by omega : i < Z.length), List.map_append]
   rw [List.getElem?_eq_getElem (by omega)] at hz
   injection hz with hz
   simp only [List.map_append, List.map_cons, List.map_nil, hz, E8]] at hg2
  have y1 : ∀ h, bL [v.d] h = some ([v.d], h) := fun _ => rfl
  have y2 : Wc 4 v.d := by simp [Wc, DV.cells, V.d, DV.one]
  have y3 : Nr v.d := v.nr
  have y4 : ∀ h, aM h 4 (.list 4 [v.d] true) = some [v.d] := fun _ => rfl
  have zi : i < (Z.map iD).length := by simp; omega
  have q1 : (Z.map iD)[i]? = some (.int .i64 (z : Nat)) := by rw [List.getElem?_map, hz]; rfl
  have ig : (Z.map iD)[i] = .int .i64 (z : Nat) := by rw [List.getElem?_eq_getElem zi] at q1; injection q1
  have ze : z < ds.length := by omega
  have he' : ds[z] = e := by rw [List.getElem?_eq_getElem ze] at he; injection he
  have zr : kk < (r.map V.d).length := by simpa using Fa
  have q2 : (r.map V.d)[kk]? = some v.d := by rw [List.getElem?_map, hv]; rfl
  have tZ : (r.map V.d)[kk] = v.d := by rw [List.getElem?_eq_getElem zr] at q2; injection q2
  have ec := dD er
  unfold DV.cells at ec
  have hs : C X r9 [(2, A), (8, .ref b 0), (11, .ref o 0), (12, R), (15, .int .i64 kk), (16, d), (75, .int .i64 nc), (76, .int .i64 kk), (79, R), (80, .int .i64 n), (81, .int .i64 i)] h = some (.norm, [(2, A), (8, .ref b 0), (11, .ref o 0), (12, R), (15, .int .i64 kk), (16, d2), (75, .int .i64 nc), (76, .int .i64 kk), (79, R), (80, .int .i64 n), (81, .int .i64 I)], h2) := by
   clear hg hg2 ih hR hlt hkk hz E8 vE hcl hv hr
   generalize (aV rs (Z.take i) kk).map V.d = xs at hw ha
   generalize Z.map iD = Zd at *
   generalize r.map V.d = rd at *
   obtain ⟨vk, vn, vs', vt⟩ := v
   simp only [V.d] at *
   unfold r9
   refine ah (I3 @c @c' @z1 @vR @vA @vr @er @ec @zi @ze @zr @he @he' @q1 @ig @q2 @tZ @y1 @y2 @y3 @y4 @hw @ha) ?_
   simp [Za, lk]
  rw [Zc, hs, ZB]
  exact ih I h2 d2 (by omega) (by omega) hg2
theorem RC.nr {ls : List V} {c : RC} (h : BuiltC ls c) : Nr c.d := by
 unfold RC.d
 refine .agg fun x hx => ?_
 simp only [List.mem_cons, List.mem_nil_iff, or_false] at hx
 rcases hx with rfl | rfl | rfl
 ·exact .int _ _
 ·rcases h.dict with h1 | ⟨h1, _⟩ <;> rw [h1]
  ·exact .list (nq _)
  ·exact .nils
 ·rw [h.B]
  refine .list fun x hx => ?_
  obtain ⟨y, _, rfl⟩ := List.mem_map.1 hx
  exact .int _ _
structure BldV (K : Zb) (o : Nat) (R A : DV) (Z : List Nat) (ds : List DV) (rs : List (List V)) : Prop where
 rd : ∀ c h, h.take K.length = K.set o (.box 28 c) → vw h 1 R = some (Z.map iD) ∧ vw h 1 A = some ds ∧ ∀ (i : Nat) (d : DV) (vs : List V), ds[i]? = some d → rs[i]? = some vs → vw h 4 d = some (vs.map V.d) ∧ d.one = true
 ol : o < K.length
set_option maxHeartbeats 1000000 in
theorem Ii {K : Zb} {A R Oq : DV} {b o n nc : Nat} {p1 p2 p3 p4 : Int} {Z : List Nat} {ds : List DV} {rs : List (List V)} (hK : BldV K o R A Z ds rs) (FF : Oq.one = true) (hZ : Z.length = n) (hn : n ≤ 200) (bj : ds.length = rs.length) (hlt : ∀ z ∈ Z, z < rs.length) (hnc : ∀ r ∈ rs, r.length = nc) (TW : nc ≤ 100) (hmay : ∀ r ∈ rs, ∀ v ∈ r, aG v = true) :
 ∀ (q k : Nat) (h : Zb) (d : DV) (cs : List RC), nc - k ≤ q → k ≤ nc → cs.length = k → (∀ j c, cs[j]? = some c → BuiltC (aV rs Z j) c) → aT 70 3 (K.set o (.box 28 (aS p1 p2 p3 p4 Oq d))) h d (cs.map RC.d) →
  ∃ (ex : Env) (h' : Zb) (d' : DV) (cs' : List RC), C X (.loop sd) [(2, A), (8, .ref b 0), (11, .ref o 0), (12, R), (75, .int .i64 nc), (76, .int .i64 k)] h = some (.exit 3, (2, A) :: (8, .ref b 0) :: (11, .ref o 0) :: (12, R) :: ex, h') ∧ cs'.length = nc ∧ (∀ j c, cs'[j]? = some c → BuiltC (aV rs Z j) c) ∧ aT 70 3 (K.set o (.box 28 (aS p1 p2 p3 p4 Oq d'))) h' d' (cs'.map RC.d) := by
 intro q
 induction q with
 | zero =>
  intro k h d cs hq hk hcl hcs hg
  obtain rfl : k = nc := by omega
  refine ⟨[(75, .int .i64 k), (76, .int .i64 k), (77, .bool false)], h, d, cs, ?_, hcl, hcs, hg⟩
  rw [Zc]
  unfold sd
  refine rn trivial ?_
  rw [Zw]
  simp [Za, lk]
 | succ q ih =>
  intro k h d cs hq hk hcl hcs hg
  by_cases c : k < nc
  case neg => exact ih k h d cs (by omega) hk hcl hcs hg
  have c' : (k : Int) < (nc : Int) := by omega
  obtain ⟨k2, OD⟩ : ∃ k2, k2 = k + 1 := ⟨_, rfl⟩
  have z1 : IntKind.i64.wrap ((k : Int) + 1) = (k2 : Int) := wr
  have ht := hg.1
  rw [List.length_set] at ht
  have hpre : ∀ h' : Zb, h'.take h.length = h → vw h' 1 R = some (Z.map iD) ∧ vw h' 1 A = some ds ∧ ∀ (i : Nat) (d : DV) (vs : List V), ds[i]? = some d → rs[i]? = some vs → vw h' 4 d = some (vs.map V.d) ∧ d.one = true := fun h' hh => hK.rd (aS p1 p2 p3 p4 Oq d) h' (by
   have hl : K.length ≤ h.length := by have := congrArg List.length ht; rw [List.length_take, List.length_set] at this; omega
   have e1 : h'.take K.length = (h'.take h.length).take K.length := by rw [List.take_take, Nat.min_eq_left hl]
   rw [e1, hh, ht])
  obtain ⟨vR, _, _⟩ := hpre h List.take_length
  obtain ⟨ex, h3, vd, hc, jg⟩ := Ih (b := b) (o := o) (nc := nc) (kk := k) hpre hZ (by omega) bj hlt (fun r hr => by rw [hnc r hr]; exact c) n 0 h .nils (by omega) (by omega) aT.zero
  rw [show ((0 : Nat) : Int) = 0 from rfl] at hc
  have Ak : (aV rs Z k).length = n := by unfold aV; rw [List.length_map, hZ]
  have mF : ∀ g : Zb, g.take h3.length = h3 → vw g 4 vd = some ((aV rs Z k).map V.d) := fun g hh => vo hh jg.vw
  have hcm : ∀ v ∈ aV rs Z k, aG v = true := fun v hv => by
   unfold aV at hv
   obtain ⟨z, hz, rfl⟩ := List.mem_map.1 hv
   have dh := hlt z hz
   have hr : rs.getD z [] = rs[z] := by simp [List.getD_eq_getElem?_getD, dh]
   rw [hr]
   have hm := List.getElem_mem dh
   have sG : k < rs[z].length := by rw [hnc _ hm]; exact c
   rw [List.getD_eq_getElem?_getD, List.getElem?_eq_getElem sG]
   exact hmay _ hm _ (List.getElem_mem _)
  rcases Mz (H := h3) mF (by omega) with ⟨Sd, ys, S3, hS, hU, hm, vG, vQ⟩ | ⟨_, v, hv, kJ⟩
  case inr => exact absurd (hcm v hv) (by rw [kJ]; simp)
  obtain ⟨cc, bS⟩ : ∃ cc : RC, cc = ⟨((aV rs Z k).length : Nat), ys, pack ((aV rs Z k).map (place ys)) (wC ys.length), Sd, .list 1 ((pack ((aV rs Z k).map (place ys)) (wC ys.length)).map bD) false⟩ := ⟨_, rfl⟩
  have hbc : BuiltC (aV rs Z k) cc := by
   rw [bS]; exact ⟨rfl, rfl, hU, hm, vG, vQ, hS, rfl⟩
  have Al : cc.d = eS ((aV rs Z k).length : Nat) Sd (.list 1 ((pack ((aV rs Z k).map (place ys)) (wC ys.length)).map bD) false) := by rw [bS]; rfl
  rw [← Al] at S3
  obtain ⟨h4, Af⟩ : ∃ h4, h4 = h3 ++ [HO.box 70 [.int .i64 cc.n, cc.D, cc.B]] := ⟨_, rfl⟩
  have sH : aT 70 3 (K.set o (.box 28 (aS p1 p2 p3 p4 Oq d))) h4 d (cs.map RC.d) := by
   obtain ⟨G, hG⟩ := take_split jg.1
   rw [Af, hG, List.append_assoc]
   exact hg.ext _
  obtain ⟨d2, h5, ha, vU⟩ := sH.app 56 [cc.d] (by simp only [List.length_map, List.length_cons, List.length_nil]; omega)
  have Cg := sH.inbox hK.ol
  have OW := vU.inbox hK.ol
  have Fz : h3[o]? = some (.box 28 (aS p1 p2 p3 p4 Oq d)) := jN jg.1 (hg.inbox hK.ol)
  have dH := vU.one
  have hc2 := dD dH
  unfold DV.cells at hc2
  have hw := sH.vw
  have bh := sH.one
  have Ah := vU.boxed (c' := aS p1 p2 p3 p4 Oq d2) hK.ol
  have Px : h4[h3.length]? = some (.box 70 [.int .i64 cc.n, cc.D, cc.B]) := by rw [Af]; simp
  rw [show cs.map RC.d ++ [cc.d] = (cs ++ [cc]).map RC.d by rw [List.map_append]; rfl] at Ah
  have Aj : ∀ j c, (cs ++ [cc])[j]? = some c → BuiltC (aV rs Z j) c := fun j c hj => by
   by_cases e : j < cs.length
   ·rw [List.getElem?_append_left e] at hj; exact hcs j c hj
   ·have hl := (List.getElem?_eq_some_iff.1 hj).1
    rw [List.length_append, List.length_cons, List.length_nil] at hl
    have : j = cs.length := by omega
    subst this
    rw [List.getElem?_append_right (Nat.le_refl _), Nat.sub_self] at hj
    injection hj with hj
    rw [← hj, hcl]; exact hbc
  have y1 : ∀ h, bL [cc.d] h = some ([cc.d], h) := fun h => by
   unfold RC.d
   rcases hbc.dict with h1 | ⟨h1, _⟩ <;> rw [h1, hbc.B] <;> rfl
  have y2 : Wc 3 cc.d := by
   unfold RC.d
   rcases hbc.dict with h1 | ⟨h1, _⟩ <;> rw [h1, hbc.B] <;> simp [Wc, DV.cells, DV.one]
  have y3 : Nr cc.d := RC.nr hbc
  have y4 : ∀ h, aM h 3 (.list 3 [cc.d] true) = some [cc.d] := fun _ => rfl
  have wh : cc.D.one = true := hbc.dict.one
  have iX : cc.B.one = true := by rw [hbc.B]; rfl
  have hs : C X sd [(2, A), (8, .ref b 0), (11, .ref o 0), (12, R), (75, .int .i64 nc), (76, .int .i64 k)] h = some (.norm, [(2, A), (8, .ref b 0), (11, .ref o 0), (12, R), (75, .int .i64 nc), (76, .int .i64 k2)], h5.set o (.box 28 (aS p1 p2 p3 p4 Oq d2))) := by
   have ow : (Z.map iD).length = n := by rw [List.length_map, hZ]
   clear hg jg vU Ah sH ih hpre hK hlt hnc hmay hcs Aj hbc hcm mF hm vQ hU hS vG bS Al ht
   generalize cs.map RC.d = xs at hw ha
   generalize Z.map iD = Zd at *
   unfold RC.d at *
   obtain ⟨cn, Wl, Wo, cD, cB⟩ := cc
   simp only at *
   unfold sd
   refine rn (cP @c @c' @vR @ow) ?_
   refine aj ?_
   rw [hc]
   subst Af
   refine ah (sU @z1 @S3 @Fz @Cg @OW @bh @dH @hc2 @wh @iX @y1 @y2 @y3 @y4 @hw @ha @Px) ?_
   simp [Za, lk]
  rw [Zc, hs, ZB]
  exact ih k2 _ d2 (cs ++ [cc]) (by omega) (by omega) (by rw [List.length_append, List.length_cons, List.length_nil]; omega) Aj Ah
section
variable {K h : Zb} {o : Nat} {x : HO}
theorem jY (ht : h.take K.length = K.set o x) {j : Nat} (hj : j < K.length) (Vt : j ≠ o) : h[j]? = K[j]? := by
 have : (h.take K.length)[j]? = (K.set o x)[j]? := by rw [ht]
 rw [List.getElem?_take_of_lt hj, List.getElem?_set_ne (fun h => Vt h.symm)] at this
 exact this
theorem jM {H : Zb} (ht : h.take K.length = K.set o x) (hl : H.length ≤ o) (iV : o < K.length) (hK : K.take H.length = H) : h.take H.length = H := by
 have e1 : h.take H.length = (h.take K.length).take H.length := by rw [List.take_take, Nat.min_eq_left (by omega)]
 rw [e1, ht, List.take_set_of_le hl, hK]
theorem cK.pre {N T sz : Nat} {d : DV} {xs : List DV} (hr : cK N T sz K d xs) (hN : o < N) (ht : h.take K.length = K.set o x) : cK N T sz h d xs := by
 rcases hr with h1 | ⟨g, q, h1, h2, h3⟩
 ·exact .inl h1
 ·refine .inr ⟨g, q, h1, h2, ?_⟩
  have hq : q < K.length := by
   rcases h3 with h3 | h3 <;> exact (List.getElem?_eq_some_iff.1 h3).1
  rw [jY ht hq (by omega)]
  exact h3
theorem cK.set {N T sz b : Nat} {d : DV} {xs : List DV} {y : HO} (hr : cK N T sz h d xs) (hb : b < N) : cK N T sz (h.set b y) d xs := by
 rcases hr with h1 | ⟨g, q, h1, h2, h3⟩
 ·exact .inl h1
 ·exact .inr ⟨g, q, h1, h2, by rw [List.getElem?_set_ne (by omega)]; exact h3⟩
theorem cK.vw {N T sz : Nat} {d : DV} {xs : List DV} (hr : cK N T sz h d xs) : Go.Proofs.YtmbgfbomgbdjeaaGreatDoor.vw h sz d = some xs := by
 rcases hr with ⟨rfl, rfl⟩ | ⟨g, q, rfl, h2, h3⟩
 ·rfl
 ·rcases h3 with h3 | h3 <;> simp [Go.Proofs.YtmbgfbomgbdjeaaGreatDoor.vw, h3, List.take_of_length_le]
end
theorem I0 {c : Cl} {v : V} (h : iE c v = true) : aG v = true := by
 unfold iE at h
 simp only [Bool.and_eq_true] at h
 exact h.1
theorem yx : ∀ (cs : List Cl) (vs : List V), cs.length = vs.length → gW cs vs = true → ∀ v ∈ vs, aG v = true
 | [], [], _, _ => by simp
 | [], _ :: _, h, _ => by simp at h
 | _ :: _, [], h, _ => by simp at h
 | c :: cs, v :: vs, hl, h => by
  simp only [gW, Bool.and_eq_true] at h
  intro w hw
  rcases List.mem_cons.1 hw with rfl | hw
  ·exact I0 h.1
  ·exact yx cs vs (by simpa using hl) h.2 w hw
theorem sQ {s : Sch} {r : List V} (h : dW s r = true) : ∀ v ∈ r, aG v = true := by
 have hl := l7 h
 unfold dW at h
 simp only [Bool.and_eq_true, decide_eq_true_eq] at h
 exact yx _ _ hl.symm h.2.2
theorem xY {d : DV} {Z : List Nat} {H : Zb} (hd : mh d Z) : ∃ R G, af d H = (R, H ++ G) ∧ cK H.length 3 1 (H ++ G) R (Z.map iD) ∧ R.one = true := by
 rcases hd with ⟨rfl, rfl⟩ | rfl
 ·exact ⟨.nils, [], by simp [af], .inl ⟨rfl, rfl⟩, rfl⟩
 ·refine ⟨.row H.length 0 0 (Z.map iD).length false, [.row 3 1 0 (Z.map iD)], by simp [af], .inr ⟨0, H.length, rfl, Nat.le_refl _, .inl (by simp)⟩, rfl⟩
set_option maxHeartbeats 2000000 in
theorem Kc {H : Zb} {Cd A O Of Cs : DV} {s : Sch} {p1 p2 p3 p4 : Int} {ds : List DV} {rs : List (List V)} {zs : List Int} (hC : ∀ g, vw g 3 Cd = some (s.cols.map Cl.d)) (aI : Cd.one = true) (hl : s.cols.length ≤ 1000) (aK : A.one = true) (hA : ∀ G, vw (H ++ G) 1 A = some ds) (hE : bg H ds rs) (hb : rs.length ≤ 200) (hO : ∀ G, vw (H ++ G) 1 O = some (zs.map intD)) (hok : qL s p1 p2 p3 p4 rs zs) :
 ∃ O' C' R' Z cs, E X 13 [Yi Cd s, .agg [.int .i64 p1, .int .i64 p2, .int .i64 p3, .int .i64 p4, Of, Cs], A, O] H = some (.tup [.agg [.int .i64 p1, .int .i64 p2, .int .i64 p3, .int .i64 p4, O', C'], R', .int .i64 0], H) ∧ OrdZ s rs Z ∧ BldC s rs Z cs ∧ dN 1 R' (Z.map iD) ∧ dN 1 O' (Z.map fun z => intD (zs.getD z 0)) ∧ dN 3 C' (cs.map RC.d) := by
 obtain ⟨k1, k2, k3, k4⟩ := hok
 obtain ⟨HB, aN⟩ : ∃ HB, HB = H ++ [HO.box 24 [Cd, .int .i64 s.key, .int .i64 s.cmp, .int .i64 s.del, .int .i64 s.sort], .box 28 [.int .i64 p1, .int .i64 p2, .int .i64 p3, .int .i64 p4, Of, Cs], .box 28 [.int .i64 0, .int .i64 0, .int .i64 0, .int .i64 0, .nils, .nils]] := ⟨_, rfl⟩
 obtain ⟨H1, aF⟩ : ∃ H1, H1 = H ++ [HO.box 24 [Cd, .int .i64 s.key, .int .i64 s.cmp, .int .i64 s.del, .int .i64 s.sort], .box 28 [.int .i64 p1, .int .i64 p2, .int .i64 p3, .int .i64 p4, Of, Cs], .box 28 [.int .i64 0, .int .i64 0, .int .i64 0, .int .i64 0, .nils, .nils], .box 28 (aS p1 p2 p3 p4 .nils .nils)] := ⟨_, rfl⟩
 have bR : ∀ G, vw (HB ++ G) 1 A = some ds := fun G => by rw [aN, List.append_assoc]; exact hA _
 have j8 : ∀ G, vw (HB ++ G) 1 O = some (zs.map intD) := fun G => by rw [aN, List.append_assoc]; exact hO _
 have hA0 : vw HB 1 A = some ds := by have := bR []; rwa [List.append_nil] at this
 have oz : vw HB 1 O = some (zs.map intD) := by have := j8 []; rwa [List.append_nil] at this
 have fU : bg HB ds rs := by rw [aN]; exact hE.ext _
 have Av : ∀ G, vw (H1 ++ G) 1 A = some ds := fun G => by rw [aF, List.append_assoc]; exact hA _
 have Au : bg H1 ds rs := by rw [aF]; exact hE.ext _
 have fI := za p1 p2 p3 p4 Of Cs
 rw [k1] at fI
 have iJ := yP (H := HB) (A := A) hC hl bR fU (by omega)
 rw [k2] at iJ
 obtain ⟨wS, wF, sE⟩ := CY (H := HB) (L := O) (Of := Of) (Cs := Cs) (p1 := p1) (p2 := p2) (p3 := p3) (p4 := p4) j8 (by omega)
 rw [sE.2 k4] at wF
 rcases Ka (H := H1) (Cd := Cd) (s := s) hC aI hl aK Av Au (by omega) with ⟨hf, _⟩ | ⟨_, d, Z, qZ, hd, hZ⟩
 case inl => rw [k2] at hf; cases hf
 have fA : A.isU = false := by cases A <;> first | rfl | simp [DV.one] at aK
 have cG := dD aK
 unfold DV.cells at cG
 unfold DV.isU at fA
 have bj : ds.length = rs.length := hE.1
 have pW : (zs.map intD).length = zs.length := List.length_map _
 obtain ⟨R, G, j5, sL, FA⟩ := xY (H := H1) hd
 obtain ⟨HS, pZ⟩ : ∃ HS, HS = H1 ++ G := ⟨_, rfl⟩
 rw [← pZ] at j5 sL
 obtain ⟨o, ho⟩ : ∃ o, o = H.length + 3 := ⟨_, rfl⟩
 have IG : H1.length = o + 1 := by rw [aF, ho]; simp
 have sF : o < HS.length := by rw [pZ, List.length_append]; omega
 have Ap : HS[o]? = some (.box 28 (aS p1 p2 p3 p4 .nils .nils)) := by
  rw [pZ, List.getElem?_append_left (by omega), aF, ho]; simp
 have Aq : HS.take H.length = H := by rw [pZ, aF, List.append_assoc]; exact List.take_left
 have ow : Z.length = rs.length := by rw [hZ.perm.length_eq]; simp
 have hlt : ∀ z ∈ Z, z < rs.length := fun z hz => List.mem_range.1 (hZ.perm.mem_iff.1 hz)
 have ve : HS.set o (.box 28 (aS p1 p2 p3 p4 .nils .nils)) = HS := by
  apply List.ext_getElem?
  intro j
  by_cases e : o = j
  ·subst e; rw [List.getElem?_set_self sF, Ap]
  ·rw [List.getElem?_set_ne e]
 have iV : H.length ≤ o := by omega
 obtain ⟨Wa, h1, Oq, hc0, hg0⟩ := Ij (HS := HS) (A := A) (O := O) (R := R) (a := H.length) (b := H.length + 2) (o := o) (n := rs.length) (p1 := p1) (p2 := p2) (p3 := p3) (p4 := p4) (Z := Z) (zs := zs) sF (fun c h ht => by
  have hp := jM ht iV sF Aq
  obtain ⟨G2, ei⟩ := take_split hp
  exact ⟨(sL.pre (by omega) ht).vw, by rw [ei]; exact hO _⟩) ow (by omega) (fun z hz => by have := hlt z hz; omega) rs.length 0 HS .nils (by omega) (by omega) (by rw [ve]; exact aT.zero)
 rw [show ((0 : Nat) : Int) = 0 from rfl] at hc0
 have ht1 := hg0.1
 rw [List.length_set] at ht1
 have Pf : HS.length ≤ h1.length := by have := congrArg List.length ht1; rw [List.length_take, List.length_set] at this; omega
 have oU : o < h1.length := by omega
 have Pe := hg0.inbox sF
 have Az := jM ht1 iV sF Aq
 have vf : h1.set o (.box 28 (aS p1 p2 p3 p4 Oq .nils)) = h1 := by
  apply List.ext_getElem?
  intro j
  by_cases e : o = j
  ·subst e; rw [List.getElem?_set_self oU, Pe]
  ·rw [List.getElem?_set_ne e]
 have uK : cK (o + 1) 3 1 h1 R (Z.map iD) := by
  have := sL.pre (by omega) ht1
  rwa [IG] at this
 have Ar : cK (o + 1) 3 1 h1 Oq (Z.map fun z => intD (zs.getD z 0)) := hg0.is.low (by rw [List.length_set]; omega)
 have hfits := gx k2
 have hK : BldV h1 o R A Z ds rs := ⟨fun c h ht => by
  have hp := jM ht iV oU Az
  obtain ⟨G2, ei⟩ := take_split hp
  refine ⟨(uK.pre (by omega) ht).vw, by rw [ei]; exact hA _, fun i d vs h1 h2 => ?_⟩
  obtain ⟨q1, q2⟩ := hE.2 i d vs h1 h2
  exact ⟨by rw [ei]; exact q1 _, q2⟩, oU⟩
 obtain ⟨SR, h2, Cq, cs, hc1, hcl, hcb, hg1⟩ := Ii (K := h1) (A := A) (R := R) (Oq := Oq) (b := H.length + 2) (o := o) (n := rs.length) (nc := s.cols.length) (p1 := p1) (p2 := p2) (p3 := p3) (p4 := p4) (Z := Z) hK hg0.one ow hb bj hlt (fun r hr => l7 (hfits.2 r hr)) (by have := (mQ hfits.1).2.1; omega) (fun r hr => sQ (hfits.2 r hr)) s.cols.length 0 h1 .nils [] (by omega) (by omega) rfl (fun j c hj => by simp at hj) (by rw [vf]; exact aT.zero)
 rw [show ((0 : Nat) : Int) = 0 from rfl] at hc1
 have kI := hg1.1
 rw [List.length_set] at kI
 have FL := hg1.inbox oU
 have FM := jM kI iV oU Az
 have Ck : h1[H.length]? = some (.box 24 [Cd, .int .i64 s.key, .int .i64 s.cmp, .int .i64 s.del, .int .i64 s.sort]) := by
  rw [jY ht1 (by omega) (by omega), pZ, List.getElem?_append_left (by omega), aF]; simp
 have Ay : h2[H.length + 2]? = some (.box 28 [.int .i64 0, .int .i64 0, .int .i64 0, .int .i64 0, .nils, .nils]) := by
  rw [jY kI (by omega) (by omega), jY ht1 (by omega) (by omega), pZ, List.getElem?_append_left (by omega), aF]; simp
 have Pb := (List.getElem?_eq_some_iff.1 Ay).1
 obtain ⟨h3, gu⟩ : ∃ h3, h3 = h2.set (H.length + 2) (.box 28 (aS p1 p2 p3 p4 Oq Cq)) := ⟨_, rfl⟩
 have FK : h3[H.length + 2]? = some (.box 28 (aS p1 p2 p3 p4 Oq Cq)) := by rw [gu, List.getElem?_set_self Pb]
 have FE := hg0.one
 have FJ := hg1.one
 obtain ⟨O', C', R', aD, l1, l2, l3⟩ := Cr (H := H) (h := h3) (p1 := p1) (p2 := p2) (p3 := p3) (p4 := p4) (Oq := Oq) (Cd := Cq) (R := R) (by rw [gu, List.take_set_of_le (by omega)]; exact FM) (by rw [gu]; exact ((Ar.pre (by omega) kI).set (by omega)).low (by omega)) (by rw [gu]; exact ((hg1.is.low (M := o + 1) (by rw [List.length_set]; omega)).set (by omega)).low (by omega)) (by rw [gu]; exact ((uK.pre (by omega) kI).set (by omega)).low (by omega)) (fun x hx => by obtain ⟨y, _, rfl⟩ := List.mem_map.1 hx; exact .int _ _) (fun x hx => by
  obtain ⟨y, hy, rfl⟩ := List.mem_map.1 hx
  obtain ⟨j, hj, rfl⟩ := List.mem_iff_getElem.1 hy
  exact RC.nr (hcb j _ (List.getElem?_eq_getElem hj))) (fun x hx => by obtain ⟨y, _, rfl⟩ := List.mem_map.1 hx; exact .int _ _)
 refine ⟨O', C', R', Z, cs, ?_, hZ, ⟨hcl, hcb⟩, l3, l1, l2⟩
 have j7 : vw HS 1 R = some (Z.map iD) := sL.vw
 have mK : (Z.map iD).length = rs.length := by rw [List.length_map, ow]
 have oW : (s.cols.map Cl.d).length = s.cols.length := List.length_map _
 have m1 : ¬ (4096 : Int) < (rs.length : Int) := by omega
 have m2 : ¬ 4096 < rs.length := by omega
 clear bR j8 fU Av Au hA hO hE sE sL uK Ar hK hg0 hg1 hcb l1 l2 l3 hfits hZ ht1 kI Az FM vf ve Aq hlt k4
 subst aN
 subst aF
 subst ho
 obtain ⟨cols, zV, zU, zT, R7⟩ := s
 simp only [Yi, Yj] at *
 generalize Z.map iD = Zd at *
 rcases hd with ⟨rfl, _⟩ | rfl
 ·simp only [af, Prod.mk.injEq] at j5
  obtain ⟨rfl, rfl⟩ := j5
  rw [Zz (X := X) _ qm _ rfl rfl]; unfold qm
  refine ah (sU @aI @aK @fA @cG @fI @iJ @wF @qZ @hA0 @oz @bj @pW @mK @j7 @k3 @m1 @m2) ?_
  refine aj ?_
  rw [hc0]
  refine ah (cH @Ck @hC @oW) ?_
  refine aj ?_
  rw [hc1]
  refine ah (cP @FL @FE @FJ @Ay) ?_
  rw [← gu]
  simp only [Zn, ZW, lk, Za, List.map_cons, List.map_nil, reduceIte, Option.map_some, Nat.reduceEqDiff]
  rw [Zo, FK]
  exact congrArg some aD
 ·simp only [af, Prod.mk.injEq] at j5
  obtain ⟨rfl, rfl⟩ := j5
  simp only [List.length_append, List.length_cons, List.length_nil, Nat.zero_add, Nat.reduceAdd, List.append_assoc, List.cons_append, List.nil_append, List.length_map] at j7 hc0 hc1 aD
  rw [Zz (X := X) _ qm _ rfl rfl]; unfold qm
  refine ah (sU @aI @aK @fA @cG @fI @iJ @wF @qZ @hA0 @oz @bj @pW @mK @j7 @k3 @m1 @m2) ?_
  refine aj ?_
  rw [hc0]
  refine ah (cH @Ck @hC @oW) ?_
  refine aj ?_
  rw [hc1]
  refine ah (cP @FL @FE @FJ @Ay) ?_
  rw [← gu]
  simp only [Zn, ZW, lk, Za, List.map_cons, List.map_nil, reduceIte, Option.map_some, Nat.reduceEqDiff]
  rw [Zo, FK]
  exact congrArg some aD
def jX (rs : List (List V)) (Z : List Nat) : List (List V) := Z.map fun z => rs.getD z []
def jy (zs : List Int) (Z : List Nat) : List Int := Z.map fun z => zs.getD z 0
section
variable {s : Sch} {rs : List (List V)} {zs : List Int} {Z : List Nat} {cs : List RC} {p1 p2 p3 p4 : Int}
theorem OrdZ.len (h : OrdZ s rs Z) : Z.length = rs.length := by rw [h.perm.length_eq]; simp
theorem OrdZ.lt (h : OrdZ s rs Z) : ∀ z ∈ Z, z < rs.length := fun z hz => List.mem_range.1 (h.perm.mem_iff.1 hz)
theorem OrdZ.uniq {W : List Nat} (h : OrdZ s rs Z) (h' : OrdZ s rs W) : Z = W := by
 have ht : ∀ x y z : Nat, Lx (dl s rs) x y → Lx (dl s rs) y z → Lx (dl s rs) x z := by
  intro x y z h1 h2
  have a1 := oN s rs
  have a2 := qu s rs
  unfold Lx at *
  have b1 := a2 x y z (by omega) (by omega)
  have c1 := a1 x z; have c2 := a1 z x; have c3 := a1 y z; have c4 := a1 z y; have c5 := a1 x y; have c6 := a1 y x
  by_cases e : dl s rs x z = 0
  ·have d1 := a2 z x y (by omega) (by omega)
   have d2 := a2 y z x (by omega) (by omega)
   right; omega
  ·left; omega
 have KB : ∀ x : Nat, ¬ Lx (dl s rs) x x := by
  intro x h
  have := oN s rs x x
  unfold Lx at h
  omega
 have hp : Z.Perm W := h.perm.trans h'.perm.symm
 have h1 := h.lx
 have h2 := h'.lx
 clear h h'
 induction Z generalizing W with
 | nil => exact (List.nil_perm.1 hp).symm
 | cons a Z ih =>
  cases W with
  | nil => exact absurd (List.perm_nil.1 hp) (by simp)
  | cons b W =>
   have e : a = b := by
    have ha : a ∈ b :: W := hp.mem_iff.1 (by simp)
    have hb : b ∈ a :: Z := hp.mem_iff.2 (by simp)
    rcases List.mem_cons.1 ha with e | ha
    ·exact e
    rcases List.mem_cons.1 hb with e | hb
    ·exact e.symm
    exact absurd (ht _ _ _ ((List.pairwise_cons.1 h1).1 b hb) ((List.pairwise_cons.1 h2).1 a ha)) (KB a)
   subst e
   rw [ih ((List.perm_cons a).1 hp) (List.pairwise_cons.1 h1).2 (List.pairwise_cons.1 h2).2]
theorem zw (h : o7 p3 p4 zs) : zs.Pairwise (· < ·) := by
 rw [List.pairwise_iff_getElem]
 intro i j hi hj hij
 induction j with
 | zero => omega
 | succ j ih =>
  have hj' : j < zs.length := by omega
  have h1 := (h (j + 1) hj zs[j + 1] (List.getElem?_eq_getElem hj)).2.2 (by omega) zs[j] (by simp [List.getElem?_eq_getElem hj'])
  by_cases e : i = j
  ·subst e; exact h1
  ·exact Int.lt_trans (ih hj' (by omega)) h1
theorem EE (h : OrdZ s rs Z) (hl : zs.length = rs.length) : (jy zs Z).Perm zs := by
 have h1 : (jy zs Z).Perm ((List.range zs.length).map fun z => zs.getD z 0) := by
  unfold jy
  rw [hl]
  exact h.perm.map _
 have h2 : ((List.range zs.length).map fun z => zs.getD z 0) = zs := by
  apply List.ext_getElem
  ·simp
  ·intro i a b
   simp [List.getD_eq_getElem?_getD, b]
 rwa [h2] at h1
theorem CP (ws : List Int) : (dz ws).Perm ws := List.mergeSort_perm _ _
theorem KZ (ws : List Int) : (dz ws).Pairwise (· ≤ ·) := by
 have := List.pairwise_mergeSort (le := fun (x y : Int) => decide (x ≤ y)) (fun a b c h1 h2 => by simp at *; omega) (fun a b => by simp; omega) ws
 unfold dz
 exact this.imp (fun h => by simpa using h)
theorem LR : ∀ {xs ys : List Int}, xs.Perm ys → xs.Pairwise (· ≤ ·) → ys.Pairwise (· ≤ ·) → xs = ys := by
 intro xs
 induction xs with
 | nil => intro ys hp _ _; exact (List.nil_perm.1 hp).symm
 | cons a xs ih =>
  intro ys hp h1 h2
  cases ys with
  | nil => exact absurd (List.perm_nil.1 hp) (by simp)
  | cons b ys =>
   have e : a = b := by
    have ha : a ∈ b :: ys := hp.mem_iff.1 (by simp)
    have hb : b ∈ a :: xs := hp.mem_iff.2 (by simp)
    rcases List.mem_cons.1 ha with e | ha
    ·exact e
    rcases List.mem_cons.1 hb with e | hb
    ·exact e.symm
    have := (List.pairwise_cons.1 h1).1 b hb
    have := (List.pairwise_cons.1 h2).1 a ha
    omega
   subst e
   rw [ih ((List.perm_cons a).1 hp) (List.pairwise_cons.1 h1).2 (List.pairwise_cons.1 h2).2]
theorem HT (h : OrdZ s rs Z) (hl : zs.length = rs.length) (hr : o7 p3 p4 zs) : dz (jy zs Z) = zs :=
 LR ((CP _).trans (EE h hl)) (KZ _) ((zw hr).imp (fun h => by omega))
theorem k9 (k : Nat) : (aV rs Z k).length = Z.length := by simp [aV]
theorem DW (hC : BldC s rs Z cs) (hlen : ∀ r ∈ rs, r.length = s.cols.length) (hZ : ∀ z ∈ Z, z < rs.length) (hl : Z.length ≤ 200) : iO (cs.map RC.sc) Z.length = jX rs Z := by
 apply List.ext_getElem
 ·simp [iO, jX]
 ·intro i h1 h2
  have hi : i < Z.length := by simpa [jX] using h2
  have E4 := hZ _ (List.getElem_mem hi)
  have hr : rs.getD Z[i] [] = rs[Z[i]] := by simp [List.getD_eq_getElem?_getD, E4]
  have lV := hlen _ (List.getElem_mem E4)
  have e1 : (iO (cs.map RC.sc) Z.length)[i] = (cs.map RC.sc).map fun c => c.val i := by simp [iO, HG]
  have e2 : (jX rs Z)[i] = rs.getD Z[i] [] := by simp [jX]
  rw [e1, e2, hr]
  apply List.ext_getElem
  ·simp [hC.len, lV]
  ·intro k k1 k2
   have hk : k < cs.length := by simpa using k1
   have hb := hC.col k _ (List.getElem?_eq_getElem hk)
   simp only [List.getElem_map]
   apply hb.val (by rw [k9]; exact hl)
   unfold aV
   rw [List.getElem?_map, List.getElem?_eq_getElem hi]
   simp only [Option.map_some]
   rw [hr, List.getD_eq_getElem?_getD, List.getElem?_eq_getElem k2]
   rfl
theorem F5 (hf : cT s rs = true) (hZ : ∀ z ∈ Z, z < rs.length) : cT s (jX rs Z) = true := by
 obtain ⟨h1, h2⟩ := gx hf
 unfold cT
 simp only [Bool.and_eq_true, Bool.not_eq_true', List.any_eq_false]
 refine ⟨h1, fun r hr => ?_⟩
 unfold jX at hr
 obtain ⟨z, hz, rfl⟩ := List.mem_map.1 hr
 have E4 := hZ z hz
 have e : rs.getD z [] = rs[z] := by simp [List.getD_eq_getElem?_getD, E4]
 rw [e, h2 _ (List.getElem_mem E4)]
 simp
theorem Gu (hok : qL s p1 p2 p3 p4 rs zs) (hZ : OrdZ s rs Z) (hC : BldC s rs Z cs) (hb : rs.length ≤ 200) : MayOk s p1 p2 p3 p4 (jy zs Z) cs := by
 obtain ⟨k1, k2, k3, k4⟩ := hok
 have hfits := gx k2
 have hlen : ∀ r ∈ rs, r.length = s.cols.length := fun r hr => l7 (hfits.2 r hr)
 have ow := hZ.len
 have iV : (jy zs Z).length = Z.length := by simp [jy]
 have hrows := DW hC hlen hZ.lt (by omega)
 refine ⟨fun c hc => ?_, k1, hC.len, ?_, ?_, fun j h1 h2 => ?_⟩
 ·obtain ⟨k, hk, rfl⟩ := List.mem_iff_getElem.1 hc
  have hbc := hC.col k _ (List.getElem?_eq_getElem hk)
  refine ⟨by rw [hbc.n, k9, iV], hbc.okC (by rw [k9]; omega)⟩
 ·rw [iV, hrows]; exact F5 k2 hZ.lt
 ·rw [HT hZ k3 k4]; exact k4
 ·rw [iV] at h2 ⊢
  rw [hrows]
  have ug : j - 1 < Z.length := by omega
  have g1 : (jX rs Z).getD (j - 1) [] = rs.getD Z[j - 1] [] := by simp [jX, List.getD_eq_getElem?_getD, ug]
  have g2 : (jX rs Z).getD j [] = rs.getD Z[j] [] := by simp [jX, List.getD_eq_getElem?_getD, h2]
  have g3 : (jy zs Z).getD (j - 1) 0 = zs.getD Z[j - 1] 0 := by simp [jy, List.getD_eq_getElem?_getD, ug]
  have g4 : (jy zs Z).getD j 0 = zs.getD Z[j] 0 := by simp [jy, List.getD_eq_getElem?_getD, h2]
  unfold ic
  rw [g1, g2, g3, g4]
  have hx : Lx (dl s rs) Z[j - 1] Z[j] := (List.pairwise_iff_getElem.1 hZ.lx) (j - 1) j ug h2 (by omega)
  have hz1 := hZ.lt _ (List.getElem_mem ug)
  have hz2 := hZ.lt _ (List.getElem_mem h2)
  have hup := List.pairwise_iff_getElem.1 (zw k4)
  unfold Lx dl at hx
  refine ⟨by omega, fun h0 => ?_⟩
  rcases hx with hx | ⟨_, hx⟩
  ·omega
  ·have := hup Z[j - 1] Z[j] (by omega) (by omega) hx
   simpa [List.getD_eq_getElem?_getD, (by omega : Z[j - 1] < zs.length), (by omega : Z[j] < zs.length)] using this
end
theorem dN.numsA {d : DV} {ws : List Int} {xs : List DV} (h : dN 1 d xs) (hx : xs = ws.map intD) : qK d ws := by
 rcases h with ⟨rfl, h0⟩ | rfl
 ·left
  refine ⟨rfl, ?_⟩
  rw [h0] at hx
  exact List.map_eq_nil_iff.1 hx.symm
 ·right; rw [hx]
theorem dN.vw {sz : Nat} {d : DV} {xs : List DV} (h : dN sz d xs) (g : Zb) : vw g sz d = some xs := by
 rcases h with ⟨rfl, rfl⟩ | rfl
 ·rfl
 ·simp [Go.Proofs.YtmbgfbomgbdjeaaGreatDoor.vw]
theorem dN.one {sz : Nat} {d : DV} {xs : List DV} (h : dN sz d xs) : d.one = true := by
 rcases h with ⟨rfl, rfl⟩ | rfl <;> rfl
theorem zJ (zs : List Int) (Z : List Nat) : (Z.map fun z => intD (zs.getD z 0)) = (jy zs Z).map intD := by simp [jy]
def pq : Sch := ⟨[⟨⟨#[107]⟩, 1, false⟩, ⟨⟨#[118]⟩, 2, true⟩], -1, -1, -1, 0⟩
def Mc : V := ⟨1, 7, ⟨#[]⟩, false⟩
def RX : V := ⟨1, 3, ⟨#[]⟩, false⟩
def tX : List (List V) := [[Mc, v0], [RX, v0], [Mc, v0]]
theorem K4 : cT pq tX = true := by decide
theorem K2 : o7 0 9 [2, 4, 6] := by
 intro j hj x hx
 match j, hj with
 | 0, _ => simp at hx; subst hx; simp
 | 1, _ => simp at hx; subst hx; simp
 | 2, _ => simp at hx; subst hx; simp
theorem K3 : OrdZ pq tX [1, 0, 2] := by
 refine ⟨by decide, ?_⟩
 have h1 : dl pq tX 1 0 < 0 := by decide
 have h2 : dl pq tX 1 2 < 0 := by decide
 have h3 : dl pq tX 0 2 = 0 := by decide
 simp [Lx, h1, h2, h3]
def wJ : DV := .list 3 (pq.cols.map Cl.d) true
theorem Rk (H : Zb) : E X 31 [] H = some (.agg [wJ, .int .i64 (-1), .int .i64 (-1), .int .i64 (-1), .int .i64 (-1)], H) := by
 unfold wJ
 simp only [pq, List.map_cons, List.map_nil]
 have y1 : ∀ a b c d e f h, bL [.agg [.str a, .int .i64 b, .bool c], .agg [.str d, .int .i64 e, .bool f]] h = some ([.agg [.str a, .int .i64 b, .bool c], .agg [.str d, .int .i64 e, .bool f]], h) := fun _ _ _ _ _ _ _ => rfl
 have y2 : ∀ a b c, Wc 3 (.agg [.str a, .int .i64 b, .bool c]) := fun a b c => by simp [Wc, DV.cells, DV.one]
 have y3 : ∀ a b c, Nr (.agg [.str a, .int .i64 b, .bool c]) := fun a b c => .agg (fun x hx => by
  simp only [List.mem_cons, List.mem_nil_iff, or_false] at hx
  rcases hx with rfl | rfl | rfl
  ·exact .str _
  ·exact .int _ _
  ·exact .bool _)
 rw [Zz (X := X) _ Qk _ rfl rfl]; unfold Qk; exact rg (cH @y1 @y2 @y3)
set_option maxHeartbeats 1000000 in
theorem Tn (H : Zb) : E X 9 [] H = some (.bool true, H) := by
 have qX := Rk
 have aI : wJ.one = true := rfl
 have SI : ∀ g, vw g 3 wJ = some (pq.cols.map Cl.d) := fun _ => rfl
 obtain ⟨ds, hds⟩ : ∃ ds, ds = tX.map fun r => DV.list 4 (r.map V.d) true := ⟨_, rfl⟩
 obtain ⟨HB, aN⟩ : ∃ HB, HB = H ++ [HO.box 24 [wJ, .int .i64 (-1), .int .i64 (-1), .int .i64 (-1), .int .i64 0]] := ⟨_, rfl⟩
 have hE : bg HB ds tX := by
  refine ⟨by rw [hds]; simp, fun i d vs h1 h2 => ?_⟩
  rw [hds, List.getElem?_map, h2] at h1
  injection h1 with h1
  subst h1
  exact ⟨fun _ => rfl, rfl⟩
 have hok : qL pq 0 1 0 9 tX [2, 4, 6] := ⟨by decide, K4, rfl, K2⟩
 obtain ⟨O', C', R', Z, cs, sX, hZ, hC, l1, l2, l3⟩ := Kc (H := HB) (Cd := wJ) (A := .list 1 ds true) (O := .list 1 ([2, 4, 6].map intD) true) (Of := .nils) (Cs := .nils) (s := pq) (p1 := 0) (p2 := 1) (p3 := 0) (p4 := 9) (ds := ds) (rs := tX) (zs := [2, 4, 6]) SI aI (by decide) rfl (fun _ => rfl) hE (by decide) (fun _ => rfl) hok
 obtain rfl : Z = [1, 0, 2] := hZ.uniq K3
 have hoff : jy [2, 4, 6] [1, 0, 2] = [4, 2, 6] := rfl
 rw [zJ, hoff] at l2
 have hmay := Gu hok hZ hC (by decide)
 rw [hoff] at hmay
 have IA : ∀ c ∈ cs, c.Ok := fun c hc => by
  obtain ⟨k, hk, rfl⟩ := List.mem_iff_getElem.1 hc
  exact (hC.col k _ (List.getElem?_eq_getElem hk)).ok (by rw [k9]; decide)
 have hcl : cs.length = 2 := hC.len
 have S6 : ∀ g, E X 26 [Yi wJ pq, .agg [.int .i64 0, .int .i64 1, .int .i64 0, .int .i64 9, O', C']] g = some (.bool true, g) := fun g => by
  obtain ⟨r, h1, h2⟩ := MB (H := g) (Cd := wJ) (Of := O') (Cs := C') (s := pq) (p1 := 0) (p2 := 1) (p3 := 0) (p4 := 9) (zs := [4, 2, 6]) (cs := cs) SI (by decide) (l2.numsA rfl) l3.vw IA (by decide) (by omega) aI
  rw [h1, h2.2 hmay]
 obtain ⟨HC, ji⟩ : ∃ HC, HC = HB ++ [HO.box 28 [.int .i64 0, .int .i64 1, .int .i64 0, .int .i64 9, O', C']] := ⟨_, rfl⟩
 obtain ⟨A, G, ds2, KN, hA⟩ := Rm (H := HC) (p1 := 0) (p2 := 1) (p3 := 0) (p4 := 9) l2.vw l3.vw IA (by decide) (by omega) hmay.all (by omega)
 have bj : ds2.length = 3 := by rw [hA.rows.1]; simp [iO]
 have qW : vw (HC ++ G) 1 A = some ds2 := by have := hA.v []; rwa [List.append_nil] at this
 have qh := fun g => vl (h := g) (A := R') (B := .list 1 [.int .i64 1, .int .i64 0, .int .i64 2] true) (xs := [1, 0, 2]) (ys := [1, 0, 2]) (l1.vw g) rfl (by decide)
 have I9 := fun g => vl (h := g) (A := O') (B := .list 1 [.int .i64 4, .int .i64 2, .int .i64 6] true) (xs := [4, 2, 6]) (ys := [4, 2, 6]) (l2.vw g) rfl (by decide)
 have o1 := l2.one
 have o2 := l3.one
 have o3 := l1.one
 have aD : fin H (HC ++ G) [.bool true] = (.bool true, H) := by
  have : (HC ++ G).take H.length = H := by rw [ji, aN, List.append_assoc, List.append_assoc]; exact List.take_left
  simp [fin, this, aJ, aO]
 simp only [decide_true] at qh I9
 have hsh : (A = .list 1 ds2 false ∧ G = []) ∨ ∃ o, A = .row o 0 0 ds2.length false := by
  rcases hA.sh with ⟨h1, h2, _⟩ | ⟨o, h1, _⟩
  ·exact .inl ⟨h1, h2⟩
  ·exact .inr ⟨o, h1⟩
 clear hA hmay IA hC hZ l1 l2 l3 hE hok hcl
 subst hds
 subst ji
 subst aN
 simp only [Yi, Yj, pq, tX, List.map_cons, List.map_nil, Mc, RX, v0, V.d, List.append_assoc, List.cons_append, List.nil_append] at *
 generalize wJ = Cd at *
 have y1 : ∀ (a b a' b' : Int) c d c' d' h, bL [.agg [.int .i64 a, .int .i64 b, .str c, .bool d], .agg [.int .i64 a', .int .i64 b', .str c', .bool d']] h = some ([.agg [.int .i64 a, .int .i64 b, .str c, .bool d], .agg [.int .i64 a', .int .i64 b', .str c', .bool d']], h) := fun _ _ _ _ _ _ _ _ _ => rfl
 have y2 : ∀ (a b : Int) c d, Wc 4 (.agg [.int .i64 a, .int .i64 b, .str c, .bool d]) := fun a b c d => by simp [Wc, DV.cells, DV.one]
 have y3 : ∀ (a b : Int) c d, Nr (.agg [.int .i64 a, .int .i64 b, .str c, .bool d]) := fun a b c d => V.nr ⟨a, b, c, d⟩
 have y4 : ∀ l1 l2 l3 h, bL [.list 4 l1 true, .list 4 l2 true, .list 4 l3 true] h = some ([.list 4 l1 true, .list 4 l2 true, .list 4 l3 true], h) := fun _ _ _ _ => rfl
 have y5 : ∀ l, Wc 1 (.list 4 l true) := fun l => by simp [Wc, DV.cells, DV.one]
 have y6 : ∀ (a b a' b' : Int) c d c' d', Nr (.list 4 [.agg [.int .i64 a, .int .i64 b, .str c, .bool d], .agg [.int .i64 a', .int .i64 b', .str c', .bool d']] true) := fun a b a' b' c d c' d' => .list (fun x hx => by
  simp only [List.mem_cons, List.mem_nil_iff, or_false] at hx
  rcases hx with rfl | rfl
  ·exact y3 _ _ _ _
  ·exact y3 _ _ _ _)
 have y7 : ∀ (a b c : Int) h, bL [.int .i64 a, .int .i64 b, .int .i64 c] h = some ([.int .i64 a, .int .i64 b, .int .i64 c], h) := fun _ _ _ _ => rfl
 have y8 : ∀ (a : Int), Wc 1 (.int .i64 a) := fun a => by simp [Wc, DV.cells, DV.one]
 have y9 : ∀ (a : Int), Nr (.int .i64 a) := fun a => .int _ _
 rcases hsh with ⟨rfl, rfl⟩ | ⟨o, rfl⟩
 ·try simp only [List.append_nil] at KN qW aD
  rw [Zz (X := X) _ b9 _ rfl rfl]; unfold b9
  refine ah (sR @qX @aI @y1 @y2 @y3 @y4 @y5 @y6 @y7 @y8 @y9 @sX @o1 @o2 @o3 @qh @I9 @S6 @KN @qW @bj) ?_
  exact re @aD
 ·rw [bj] at KN qW
  rw [Zz (X := X) _ b9 _ rfl rfl]; unfold b9
  refine ah (sR @qX @aI @y1 @y2 @y3 @y4 @y5 @y6 @y7 @y8 @y9 @sX @o1 @o2 @o3 @qh @I9 @S6 @KN @qW @bj) ?_
  exact re @aD
structure Rc where
 d : DV
 vs : List V
 off : Int
def Rc.r (x : Rc) : DV := .agg [x.d, .int .i64 x.off]
structure RecL (L : DV) (xs : List Rc) : Prop where
 v : ∀ g, vw g 2 L = some (xs.map Rc.r)
 row : ∀ x ∈ xs, eU x.d x.vs
theorem NY {h : Zb} {L : DV} {xs : List Rc} (hL : RecL L xs) (hb : xs.length ≤ 60) :
 ∀ (q i : Nat), xs.length - i ≤ q → i ≤ xs.length → ((∃ ex, C X (.loop lQ) [(0, L), (3, .int .i64 i)] h = some (.exit 0, ex, h)) ∧ ∀ j x, i ≤ j → xs[j]? = some x → iu x.vs = true) ∨ C X (.loop lQ) [(0, L), (3, .int .i64 i)] h = some (.ret, [(2, .int .i64 1)], h) := by
 have hv := hL.v h
 have fQ : (xs.map Rc.r).length = xs.length := List.length_map _
 intro q
 induction q with
 | zero =>
  intro i hq hi
  obtain rfl : i = xs.length := by omega
  left
  refine ⟨?_, fun j x h1 h2 => by have := (List.getElem?_eq_some_iff.1 h2).1; omega⟩
  rw [Zc]
  unfold lQ
  refine rn (aL @hv @fQ) ?_
  rw [Zw]
  exact ⟨_, rfl⟩
 | succ q ih =>
  intro i hq hi
  by_cases c : i < xs.length
  case neg => exact ih i (by omega) hi
  have c' : (i : Int) < (xs.length : Int) := by omega
  obtain ⟨I, hI⟩ : ∃ I, I = i + 1 := ⟨_, rfl⟩
  have z1 : IntKind.i64.wrap ((i : Int) + 1) = (I : Int) := wr
  obtain ⟨x, hx⟩ : ∃ x, xs[i]? = some x := ⟨xs[i], List.getElem?_eq_getElem c⟩
  have sC := hL.row x (List.mem_of_getElem? hx)
  have mL := Rj (h := h) (sC.vw h)
  have q1 : (xs.map Rc.r)[i]? = some (.agg [x.d, .int .i64 x.off]) := by rw [List.getElem?_map, hx]; rfl
  have zi : i < (xs.map Rc.r).length := by omega
  have ig : (xs.map Rc.r)[i] = .agg [x.d, .int .i64 x.off] := by rw [List.getElem?_eq_getElem zi] at q1; injection q1
  have o1 := sC.one
  generalize xs.map Rc.r = xd at *
  cases hl : iu x.vs
  ·right
   rw [hl] at mL
   have hs : C X lQ [(0, L), (3, .int .i64 i)] h = some (.ret, [(2, .int .i64 1)], h) := by
    clear ih hL sC hl
    unfold lQ
    refine ah (dL @c @c' @z1 @hv @fQ @q1 @ig @zi @o1 @mL) ?_
    simp [Za, lk]
   rw [Zc, hs, aR]
  ·rw [hl] at mL
   have hs : C X lQ [(0, L), (3, .int .i64 i)] h = some (.norm, [(0, L), (3, .int .i64 I)], h) := by
    clear ih hL sC hl
    unfold lQ
    refine ah (dL @c @c' @z1 @hv @fQ @q1 @ig @zi @o1 @mL) ?_
    simp [Za, lk]
   rw [Zc, hs, ZB]
   rcases ih I (by omega) (by omega) with ⟨h1, h2⟩ | h1
   ·refine .inl ⟨h1, fun j y h3 h4 => ?_⟩
    by_cases e : j = i
    ·subst e; rw [hx] at h4; injection h4 with h4; rw [← h4]; exact hl
    ·exact h2 j y (by omega) h4
   ·exact .inr h1
theorem Rp {L : DV} {xs : List Rc} (hL : RecL L xs) (H : Zb) : ∃ k : Int, E X 11 [L] H = some (.int .i64 k, H) ∧ (¬ 0 < k → xs.length ≤ 60 ∧ ∀ x ∈ xs, iu x.vs = true) := by
 have hv := hL.v H
 have fQ : (xs.map Rc.r).length = xs.length := List.length_map _
 by_cases c : 60 < xs.length
 ·have c' : (60 : Int) < (xs.length : Int) := by omega
  refine ⟨1, ?_, fun h => absurd (by omega) h⟩
  generalize xs.map Rc.r = xd at *
  rw [Zz (X := X) _ Bi _ rfl rfl]; unfold Bi; exact rg (cP @hv @fQ @c @c')
 have c' : ¬ (60 : Int) < (xs.length : Int) := by omega
 rcases NY (h := H) hL (by omega) xs.length 0 (by omega) (by omega) with ⟨⟨ex, hc⟩, hl⟩ | hc
 ·refine ⟨0, ?_, fun _ => ⟨by omega, fun x hx => ?_⟩⟩
  ·rw [show ((0 : Nat) : Int) = 0 from rfl] at hc
   generalize xs.map Rc.r = xd at *
   rw [Zz (X := X) _ Bi _ rfl rfl]; unfold Bi
   refine rn (cP @hv @fQ @c @c') ?_
   refine aj ?_
   rw [hc]
   refine rn trivial ?_
   exact re @hv
  ·obtain ⟨j, hj, rfl⟩ := List.mem_iff_getElem.1 hx
   exact hl j _ (Nat.zero_le _) (List.getElem?_eq_getElem hj)
 ·refine ⟨1, ?_, fun h => absurd (by omega) h⟩
  rw [show ((0 : Nat) : Int) = 0 from rfl] at hc
  generalize xs.map Rc.r = xd at *
  rw [Zz (X := X) _ Bi _ rfl rfl]; unfold Bi
  refine rn (cP @hv @fQ @c @c') ?_
  refine aj ?_
  rw [hc]
  refine rn trivial ?_
  exact re @hv
def pg (N T sz : Nat) (h : Zb) (d : DV) (xs : List DV) : Prop := (d = .nils ∧ xs = []) ∨ ∃ g o, d = .row o g 0 xs.length false ∧ N ≤ o ∧ h[o]? = some (.row T sz g xs)
theorem pg.is {N T sz : Nat} {h : Zb} {d : DV} {xs : List DV} (hr : pg N T sz h d xs) : cK N T sz h d xs := by
 rcases hr with h1 | ⟨g, o, h1, h2, h3⟩
 ·exact .inl h1
 ·exact .inr ⟨g, o, h1, h2, .inl h3⟩
def xL (a o : DV) : Prop := ∀ q g m q' g' m', a = .row q g 0 m false → o = .row q' g' 0 m' false → q ≠ q'
theorem Qs {T sz T' cF b : Nat} {H h : Zb} {a o : DV} {xs ys : List DV} (ht : h.take H.length = H) (ha : pg H.length T sz h a xs) (ho : pg H.length T' cF h o ys) (hd : xL a o) (x : DV) (hb : (xs.length + 1) * b ≤ 140737488355328) :
 ∃ a' h', aW h T sz b a xs [x] = some (a', h') ∧ h'.take H.length = H ∧ pg H.length T sz h' a' (xs ++ [x]) ∧ pg H.length T' cF h' o ys ∧ xL a' o := by
 rcases ha with ⟨rfl, rfl⟩ | ⟨g, q, rfl, hq, hx⟩
 ·refine ⟨.row h.length 0 0 1 false, h ++ [.row T sz 0 [x]], ?_, ?_, .inr ⟨0, h.length, rfl, eJ ht, by simp⟩, ?_, ?_⟩
  ·simp only [aW]
   rw [if_neg (by simp), if_pos (by simpa using hb)]
   rfl
  ·rw [List.take_append_of_le_length (eJ ht)]; exact ht
  ·rcases ho with h1 | ⟨g, o, h1, h2, h3⟩
   ·exact .inl h1
   ·exact .inr ⟨g, o, h1, h2, hle h3 _⟩
  ·intro q g m q' g' m' h1 h2
   injection h1 with h1
   rcases ho with ⟨h3, _⟩ | ⟨g2, o2, h3, h4, h5⟩
   ·rw [h3] at h2; cases h2
   ·rw [h3] at h2
    injection h2 with h2
    have := (List.getElem?_eq_some_iff.1 h5).1
    omega
 ·have hl := (List.getElem?_eq_some_iff.1 hx).1
  refine ⟨.row q (g + 1) 0 (xs.length + 1) false, h.set q (.row T sz (g + 1) (xs ++ [x])), ?_, ?_, .inr ⟨g + 1, q, by simp, hq, by rw [List.getElem?_set_self hl]⟩, ?_, ?_⟩
  ·simp only [aW]
   rw [if_neg (by simp), if_pos (by simpa using hb), hx]
   simp
  ·rw [List.take_set_of_le hq]; exact ht
  ·rcases ho with h1 | ⟨g2, o2, h1, h2, h3⟩
   ·exact .inl h1
   ·exact .inr ⟨g2, o2, h1, h2, by rw [List.getElem?_set_ne (hd q g _ o2 g2 _ rfl h1)]; exact h3⟩
  ·intro q1 g1 m1 q' g' m' h1 h2
   injection h1 with h1
   rw [← h1]
   exact hd q g _ q' g' m' rfl h2
theorem xL.symm {a o : DV} (h : xL a o) : xL o a := fun q g m q' g' m' h1 h2 e => h q' g' m' q g m h2 h1 e.symm
theorem LZ {H h : Zb} {a o : DV} {T sz T' cF : Nat} {xs ys : List DV} (ht : h.take H.length = H) (ha : cK H.length T sz h a xs) (ho : cK H.length T' cF h o ys) (n1 : ∀ x ∈ xs, Nr x) (n2 : ∀ x ∈ ys, Nr x) : ∃ A O, fin H h [a, o] = (.tup [A, O], H) ∧ dN sz A xs ∧ dN cF O ys := by
 obtain ⟨A, h1, f1, l1, k1⟩ := ha.fz n1
 obtain ⟨O, h2, f2, l2, k2⟩ := (k1 _ _ _ _ ho).fz n2
 refine ⟨A, O, ?_, l1, l2⟩
 have g1 : aJ H.length h false a = some (A, h1) := by
  rcases ha with ⟨rfl, _⟩ | ⟨g, q, rfl, _, _⟩ <;> exact f1
 have g2 : aJ H.length h1 false o = some (O, h2) := by
  rcases ho with ⟨rfl, _⟩ | ⟨g, q, rfl, _, _⟩ <;> exact f2
 simp only [fin]
 rw [if_pos ht]
 simp only [bq, g1, g2]
theorem eU.nr {d : DV} {vs : List V} (h : eU d vs) : Nr d := by
 rcases h with rfl | ⟨rfl, _⟩
 ·exact .list (nq _)
 ·exact .nils
theorem NW {H : Zb} {L : DV} {xs : List Rc} (hL : RecL L xs) (hb : xs.length ≤ 1000) :
 ∀ (q i : Nat) (h : Zb) (a o : DV), xs.length - i ≤ q → i ≤ xs.length → h.take H.length = H → pg H.length 45 1 h a ((xs.take i).map Rc.d) → pg H.length 3 1 h o ((xs.take i).map fun x => intD x.off) → xL a o →
  ∃ ex h' a' o', C X (.loop sj) [(0, L), (4, a), (5, o), (6, .int .i64 i)] h = some (.exit 0, (0, L) :: (4, a') :: (5, o') :: ex, h') ∧ h'.take H.length = H ∧ pg H.length 45 1 h' a' (xs.map Rc.d) ∧ pg H.length 3 1 h' o' (xs.map fun x => intD x.off) := by
 have hv := hL.v
 have fQ : (xs.map Rc.r).length = xs.length := List.length_map _
 intro q
 induction q with
 | zero =>
  intro i h a o hq hi ht ha ho hd
  obtain rfl : i = xs.length := by omega
  rw [List.take_length] at ha ho
  refine ⟨[(6, .int .i64 xs.length), (10, .bool false)], h, a, o, ?_, ht, ha, ho⟩
  rw [Zc]
  unfold sj
  refine rn (aL @hv @fQ) ?_
  rw [Zw]
  simp [Za, lk]
 | succ q ih =>
  intro i h a o hq hi ht ha ho hd
  by_cases c : i < xs.length
  case neg => exact ih i h a o (by omega) hi ht ha ho hd
  have c' : (i : Int) < (xs.length : Int) := by omega
  obtain ⟨I, hI⟩ : ∃ I, I = i + 1 := ⟨_, rfl⟩
  have z1 : IntKind.i64.wrap ((i : Int) + 1) = (I : Int) := wr
  obtain ⟨x, hx⟩ : ∃ x, xs[i]? = some x := ⟨xs[i], List.getElem?_eq_getElem c⟩
  have N8 : xs[i] = x := by rw [List.getElem?_eq_getElem c] at hx; injection hx
  have sC := hL.row x (List.mem_of_getElem? hx)
  obtain ⟨a2, h2, p1, t2, ra, ro, d2⟩ := Qs (b := 24) ht ha ho hd x.d (by simp; omega)
  obtain ⟨o2, h3, p2, t3, Ke, Ng, d3⟩ := Qs (b := 8) t2 ro ra d2.symm (intD x.off) (by simp; omega)
  have e1 : (xs.take i).map Rc.d ++ [x.d] = (xs.take I).map Rc.d := by
   rw [hI, ← List.take_append_getElem c, List.map_append, N8]; rfl
  have e2 : ((xs.take i).map fun x => intD x.off) ++ [intD x.off] = (xs.take I).map fun x => intD x.off := by
   rw [hI, ← List.take_append_getElem c, List.map_append, N8]; rfl
  rw [e1] at Ng
  rw [e2] at Ke
  have wa : vw h 1 a = some ((xs.take i).map Rc.d) := ha.is.vw
  have wo : vw h2 1 o = some ((xs.take i).map fun x => intD x.off) := ro.is.vw
  have q1 : (xs.map Rc.r)[i]? = some (.agg [x.d, .int .i64 x.off]) := by rw [List.getElem?_map, hx]; rfl
  have zi : i < (xs.map Rc.r).length := by omega
  have ig : (xs.map Rc.r)[i] = .agg [x.d, .int .i64 x.off] := by rw [List.getElem?_eq_getElem zi] at q1; injection q1
  have o1 := sC.one
  have hc1 := dD o1
  have y1 : ∀ h, bL [x.d] h = some ([x.d], h) := fun h => by rcases sC with e | ⟨e, _⟩ <;> rw [e] <;> rfl
  have y2 : Wc 1 x.d := by unfold Wc; rw [hc1]; exact ⟨rfl, fun c hc => by rw [List.mem_singleton.1 hc]; exact o1⟩
  have y3 : Nr x.d := sC.nr
  have y4 : ∀ h (e : DV), aM h 1 (.list 1 [e] true) = some [e] := fun _ _ => rfl
  have y5 : ∀ h (n : Int), bL [.int .i64 n] h = some ([.int .i64 n], h) := fun _ _ => rfl
  have y6 : ∀ (n : Int), Wc 1 (.int .i64 n) := fun n => by simp [Wc, DV.cells, DV.one]
  have y7 : ∀ (n : Int), Nr (.int .i64 n) := fun n => .int _ _
  unfold DV.cells at hc1
  have hs : C X sj [(0, L), (4, a), (5, o), (6, .int .i64 i)] h = some (.norm, [(0, L), (4, a2), (5, o2), (6, .int .i64 I)], h3) := by
   clear ih hL sC ha ho ra ro Ng Ke e1 e2 ht t2 t3 N8
   generalize (xs.take i).map Rc.d = xa at wa p1
   generalize ((xs.take i).map fun x => intD x.off) = xo at wo p2
   generalize xs.map Rc.r = xd at *
   unfold sj
   refine ah (sR @c @c' @z1 @hv @fQ @q1 @ig @zi @o1 @hc1 @y1 @y2 @y3 @y4 @y5 @y6 @y7 @wa @wo @p1 @p2) ?_
   simp [Za, lk]
  rw [Zc, hs, ZB]
  exact ih I h3 a2 o2 (by omega) (by omega) t3 Ng Ke d3.symm
theorem Ro {L : DV} {xs : List Rc} (hL : RecL L xs) (hb : xs.length ≤ 1000) (H : Zb) : ∃ A O, E X 12 [L] H = some (.tup [A, O], H) ∧ dN 1 A (xs.map Rc.d) ∧ dN 1 O (xs.map fun x => intD x.off) := by
 obtain ⟨ex, h, a, o, hc, ht, ha, ho⟩ := NW hL hb xs.length 0 H .nils .nils (by omega) (by omega) List.take_length (.inl ⟨rfl, rfl⟩) (.inl ⟨rfl, rfl⟩) (fun _ _ _ _ _ _ h => by cases h)
 rw [show ((0 : Nat) : Int) = 0 from rfl] at hc
 obtain ⟨A, O, hf, l1, l2⟩ := LZ ht ha.is ho.is (fun x hx => by
  obtain ⟨y, hy, rfl⟩ := List.mem_map.1 hx
  exact (hL.row y hy).nr) (fun x hx => by
  obtain ⟨y, hy, rfl⟩ := List.mem_map.1 hx
  exact .int _ _)
 refine ⟨A, O, ?_, l1, l2⟩
 rw [Zz (X := X) _ Qo _ rfl rfl]; unfold Qo
 refine rn trivial ?_
 refine aj ?_
 rw [hc]
 refine rn trivial ?_
 simp only [Zn, ZW, lk, Za, List.map_cons, List.map_nil, reduceIte, Option.map_some, Nat.reduceEqDiff, hf]
theorem HN {xs : List Rc} (hr : ∀ x ∈ xs, eU x.d x.vs) (H : Zb) : bg H (xs.map Rc.d) (xs.map Rc.vs) := by
 refine ⟨by simp, fun i d vs h1 h2 => ?_⟩
 rw [List.getElem?_map] at h1 h2
 cases hx : xs[i]? with
 | none => rw [hx] at h1; cases h1
 | some x =>
  rw [hx] at h1 h2
  injection h1 with h1
  injection h2 with h2
  subst h1; subst h2
  have := hr x (List.mem_of_getElem? hx)
  exact ⟨fun L => this.vw _, this.one⟩
theorem NQ {h : Zb} {Cd d : DV} {s : Sch} {vs : List V} {b : Nat} (hC : ∀ g, vw g 3 Cd = some (s.cols.map Cl.d)) (hd : vw h 4 d = some (vs.map V.d)) (hb : h[b]? = some (.box 24 (Yj Cd s))) (hl : vs.length = s.cols.length) (hcl : s.cols.length ≤ 1000) :
 ∀ (q i : Nat), vs.length - i ≤ q → i ≤ vs.length → (gW (s.cols.drop i) (vs.drop i) = true ∧ ∃ ex, C X (.loop eL) [(1, d), (2, .ref b 0), (6, .int .i64 i)] h = some (.exit 0, ex, h)) ∨ (gW (s.cols.drop i) (vs.drop i) = false ∧ C X (.loop eL) [(1, d), (2, .ref b 0), (6, .int .i64 i)] h = some (.ret, [(4, .bool false)], h)) := by
 intro q
 induction q with
 | zero =>
  intro i hq hi
  obtain rfl : i = vs.length := by omega
  left
  refine ⟨by rw [List.drop_length]; cases (s.cols.drop vs.length) <;> rfl, ?_⟩
  rw [Zc]
  unfold eL
  refine rn @hd ?_
  rw [Zw]
  exact ⟨_, rfl⟩
 | succ q ih =>
  intro i hq hi
  by_cases c : i < vs.length
  case neg => exact ih i (by omega) hi
  have c' : (i : Int) < (vs.length : Int) := by omega
  obtain ⟨I, hI⟩ : ∃ I, I = i + 1 := ⟨_, rfl⟩
  have z1 : IntKind.i64.wrap ((i : Int) + 1) = (I : Int) := wr
  have c2 : i < s.cols.length := by omega
  obtain ⟨x, hx⟩ : ∃ x, x = s.cols[i] := ⟨_, rfl⟩
  have aY : s.cols[i]? = some x := by rw [hx]; exact List.getElem?_eq_getElem c2
  have hx' := hx.symm
  obtain ⟨v, hv⟩ : ∃ v, v = vs[i] := ⟨_, rfl⟩
  have ef : vs[i]? = some v := by rw [hv]; exact List.getElem?_eq_getElem c
  have hv' := hv.symm
  have bh : s.cols.drop i = x :: s.cols.drop I := by rw [List.drop_eq_getElem_cons c2, ← hx, hI]
  have dH : vs.drop i = v :: vs.drop I := by rw [List.drop_eq_getElem_cons c, ← hv, hI]
  rw [bh, dH, gW]
  have qg := J3 v
  have bad : C X eL [(1, d), (2, .ref b 0), (6, .int .i64 i)] h = some (.ret, [(4, .bool false)], h) → iE x v = false → ((iE x v && gW (s.cols.drop I) (vs.drop I)) = true ∧ ∃ ex, C X (.loop eL) [(1, d), (2, .ref b 0), (6, .int .i64 i)] h = some (.exit 0, ex, h)) ∨ ((iE x v && gW (s.cols.drop I) (vs.drop I)) = false ∧ C X (.loop eL) [(1, d), (2, .ref b 0), (6, .int .i64 i)] h = some (.ret, [(4, .bool false)], h)) := fun hs hf => .inr ⟨by rw [hf]; rfl, by rw [Zc, hs, aR]⟩
  have good : C X eL [(1, d), (2, .ref b 0), (6, .int .i64 i)] h = some (.norm, [(1, d), (2, .ref b 0), (6, .int .i64 I)], h) → iE x v = true → ((iE x v && gW (s.cols.drop I) (vs.drop I)) = true ∧ ∃ ex, C X (.loop eL) [(1, d), (2, .ref b 0), (6, .int .i64 i)] h = some (.exit 0, ex, h)) ∨ ((iE x v && gW (s.cols.drop I) (vs.drop I)) = false ∧ C X (.loop eL) [(1, d), (2, .ref b 0), (6, .int .i64 i)] h = some (.ret, [(4, .bool false)], h)) := fun hs hf => by
   rw [hf, Bool.true_and, Zc, hs, ZB]
   exact ih I (by omega) (by omega)
  clear ih hx hv bh dH
  obtain ⟨cols, k1, k2, k3, k4⟩ := s
  obtain ⟨nm, kd, nl⟩ := x
  obtain ⟨vk, vn, vs', vt⟩ := v
  simp only [Yj, Cl.d] at *
  cases hm : aG ⟨vk, vn, vs', vt⟩
  ·refine bad ?_ (by unfold iE; rw [hm]; simp)
   rw [hm] at qg
   clear bad good hm
   simp only [V.d] at *
   unfold eL
   by_cases n0 : vk = 0
   ·subst n0
    refine ah (jD @c @c' @z1 @hC @hd @hb @aY @hx' @ef @hv' @c2 @hl @qg) ?_
    simp [Za, lk]
   ·have EH : (vk == 0) = false := by simpa using n0
    refine ah (mC @c @c' @z1 @hC @hd @hb @aY @hx' @ef @hv' @c2 @hl @qg @EH) ?_
    simp [Za, lk]
  rw [hm] at qg
  by_cases n1 : vk = kd
  ·refine good ?_ (by unfold iE; rw [hm]; simp [n1])
   clear bad good hm
   simp only [V.d] at *
   unfold eL
   have BW : (vk != kd) = false := by simpa using n1
   by_cases n0 : vk = 0
   ·subst n0
    refine ah (mC @c @c' @z1 @hC @hd @hb @aY @hx' @ef @hv' @c2 @hl @qg @BW) ?_
    simp [Za, lk]
   ·have EH : (vk == 0) = false := by simpa using n0
    refine ah (mA @c @c' @z1 @hC @hd @hb @aY @hx' @ef @hv' @c2 @hl @qg @EH @BW) ?_
    simp [Za, lk]
  have BW : (vk != kd) = true := by simpa using n1
  by_cases n0 : vk = 0
  ·subst n0
   cases nl
   ·refine bad ?_ (by unfold iE; rw [hm]; simp [n1])
    clear bad good hm
    simp only [V.d] at *
    unfold eL
    refine ah (mC @c @c' @z1 @hC @hd @hb @aY @hx' @ef @hv' @c2 @hl @qg @BW) ?_
    simp [Za, lk]
   ·refine good ?_ (by unfold iE; rw [hm]; simp [n1])
    clear bad good hm
    simp only [V.d] at *
    unfold eL
    refine ah (mC @c @c' @z1 @hC @hd @hb @aY @hx' @ef @hv' @c2 @hl @qg @BW) ?_
    simp [Za, lk]
  ·have EH : (vk == 0) = false := by simpa using n0
   refine bad ?_ (by unfold iE; rw [hm]; simp [n1, n0])
   clear bad good hm
   simp only [V.d] at *
   unfold eL
   refine ah (mA @c @c' @z1 @hC @hd @hb @aY @hx' @ef @hv' @c2 @hl @qg @EH @BW) ?_
   simp [Za, lk]
theorem Rl {H : Zb} {Cd d : DV} {s : Sch} {vs : List V} (hC : ∀ g, vw g 3 Cd = some (s.cols.map Cl.d)) (hd : ∀ G, vw (H ++ G) 4 d = some (vs.map V.d)) (hl : s.cols.length ≤ 1000) : E X 30 [Yi Cd s, d] H = some (.bool (dW s vs), H) := by
 have gL := fun g => J4 hC hl g
 have gv := hd [.box 24 (Yj Cd s)]
 unfold dW
 cases hm : cC s
 ·rw [hm] at gL
  obtain ⟨cols, k1, k2, k3, k4⟩ := s
  simp only [Yi, Yj] at *
  rw [Zz (X := X) _ Bc _ rfl rfl]; unfold Bc; exact dO @gL
 rw [hm] at gL
 by_cases c1 : vs.length = s.cols.length
 case neg =>
  rw [decide_eq_false c1]
  have ew : ((vs.length : Int) != (s.cols.length : Int)) = true := by simp only [bne_iff_ne, ne_eq]; omega
  clear hm hd
  obtain ⟨cols, k1, k2, k3, k4⟩ := s
  simp only [Yi, Yj] at *
  rw [Zz (X := X) _ Bc _ rfl rfl]; unfold Bc; exact dO (ej @gL @hC @gv @c1 @ew)
 rw [decide_eq_true c1, Bool.true_and, Bool.true_and]
 have ew : ((vs.length : Int) != (s.cols.length : Int)) = false := by rw [c1]; simp
 rcases NQ (b := H.length) hC gv (by simp) c1 hl vs.length 0 (by omega) (by omega) with ⟨hf, ex, hc⟩ | ⟨hf, hc⟩
 all_goals
  rw [List.drop_zero, List.drop_zero] at hf
  rw [hf]
  rw [show ((0 : Nat) : Int) = 0 from rfl] at hc
  clear hm hd hf
  obtain ⟨cols, k1, k2, k3, k4⟩ := s
  simp only [Yi, Yj] at *
  rw [Zz (X := X) _ Bc _ rfl rfl]; unfold Bc
  refine ah (ej @gL @hC @gv @c1 @ew) ?_
  refine aj ?_
  rw [hc]
  refine rn trivial ?_
  simp [Zn, ZS, ZW, go_sem, fin, aO, aJ, bq, cZ, d8, gv]
theorem NR {h : Zb} {Cd A : DV} {s : Sch} {ds : List DV} {rs : List (List V)} {b : Nat} (hC : ∀ g, vw g 3 Cd = some (s.cols.map Cl.d)) (hcl : s.cols.length ≤ 1000) (hb : h[b]? = some (.box 24 (Yj Cd s))) (hA : vw h 1 A = some ds) (hE : bg h ds rs) (hl : rs.length ≤ 1000) :
 ∀ (q i : Nat), rs.length - i ≤ q → i ≤ rs.length → ((∃ ex, C X (.loop lP) [(1, A), (2, .ref b 0), (6, .int .i64 i)] h = some (.exit 0, ex, h)) ∧ ∀ j r, i ≤ j → rs[j]? = some r → dW s r = true) ∨ (C X (.loop lP) [(1, A), (2, .ref b 0), (6, .int .i64 i)] h = some (.ret, [(4, .bool false)], h) ∧ ∃ r ∈ rs, dW s r = false) := by
 have bj := hE.1
 intro q
 induction q with
 | zero =>
  intro i hq hi
  obtain rfl : i = rs.length := by omega
  left
  refine ⟨?_, fun j r h1 h2 => by have := (List.getElem?_eq_some_iff.1 h2).1; omega⟩
  rw [Zc]
  unfold lP
  refine rn (aL @hA @bj) ?_
  rw [Zw]
  exact ⟨_, rfl⟩
 | succ q ih =>
  intro i hq hi
  by_cases c : i < rs.length
  case neg => exact ih i (by omega) hi
  have c' : (i : Int) < (rs.length : Int) := by omega
  obtain ⟨I, hI⟩ : ∃ I, I = i + 1 := ⟨_, rfl⟩
  have z1 : IntKind.i64.wrap ((i : Int) + 1) = (I : Int) := wr
  obtain ⟨r, hr⟩ : ∃ r, rs[i]? = some r := ⟨rs[i], List.getElem?_eq_getElem c⟩
  have ze : i < ds.length := by omega
  obtain ⟨e, he⟩ : ∃ e, ds[i]? = some e := ⟨ds[i], List.getElem?_eq_getElem ze⟩
  have he' : ds[i] = e := by rw [List.getElem?_eq_getElem ze] at he; injection he
  obtain ⟨e1, e2⟩ := hE.2 i e r he hr
  have ko := Rl (H := h) hC e1 hcl
  have ec := dD e2
  unfold DV.cells at ec
  cases hf : dW s r
  ·right
   rw [hf] at ko
   refine ⟨?_, r, List.mem_of_getElem? hr, hf⟩
   have hs : C X lP [(1, A), (2, .ref b 0), (6, .int .i64 i)] h = some (.ret, [(4, .bool false)], h) := by
    clear ih hE e1 hf
    obtain ⟨cols, k1, k2, k3, k4⟩ := s
    simp only [Yi, Yj] at *
    unfold lP
    refine ah (iG @c @c' @z1 @hA @bj @ze @he @he' @e2 @ec @hb @ko) ?_
    simp [Za, lk]
   rw [Zc, hs, aR]
  ·rw [hf] at ko
   have hs : C X lP [(1, A), (2, .ref b 0), (6, .int .i64 i)] h = some (.norm, [(1, A), (2, .ref b 0), (6, .int .i64 I)], h) := by
    clear ih hE e1 hf
    obtain ⟨cols, k1, k2, k3, k4⟩ := s
    simp only [Yi, Yj] at *
    unfold lP
    refine ah (iG @c @c' @z1 @hA @bj @ze @he @he' @e2 @ec @hb @ko) ?_
    simp [Za, lk]
   rw [Zc, hs, ZB]
   rcases ih I (by omega) (by omega) with ⟨h1, h2⟩ | h1
   ·refine .inl ⟨h1, fun j y h3 h4 => ?_⟩
    by_cases e : j = i
    ·subst e; rw [hr] at h4; injection h4 with h4; rw [← h4]; exact hf
    ·exact h2 j y (by omega) h4
   ·exact .inr h1
theorem LY {s : Sch} {rs : List (List V)} (h1 : cC s = true) (h2 : ∀ r ∈ rs, dW s r = true) : cT s rs = true := by
 unfold cT
 simp only [Bool.and_eq_true, Bool.not_eq_true', List.any_eq_false]
 exact ⟨h1, fun r hr => by rw [h2 r hr]; simp⟩
theorem CZ {H : Zb} {Cd A : DV} {s : Sch} {ds : List DV} {rs : List (List V)} (hC : ∀ g, vw g 3 Cd = some (s.cols.map Cl.d)) (hcl : s.cols.length ≤ 1000) (hA : ∀ G, vw (H ++ G) 1 A = some ds) (hE : bg H ds rs) (hl : rs.length ≤ 1000) : E X 28 [Yi Cd s, A] H = some (.bool (cT s rs), H) := by
 have gL := fun g => J4 hC hcl g
 cases hm : cC s
 ·have : cT s rs = false := by unfold cT; rw [hm]; rfl
  rw [this]
  rw [hm] at gL
  clear this hm hE hA
  obtain ⟨cols, k1, k2, k3, k4⟩ := s
  simp only [Yi, Yj] at *
  rw [Zz (X := X) _ Bd _ rfl rfl]; unfold Bd; exact dO @gL
 rw [hm] at gL
 rcases NR (h := H ++ [.box 24 (Yj Cd s)]) (b := H.length) hC hcl (by simp) (hA _) (hE.ext _) hl rs.length 0 (by omega) (by omega) with ⟨⟨ex, hc⟩, hok⟩ | ⟨hc, r, hr, hf⟩
 ·rw [LY hm (fun r hr => by
   obtain ⟨j, hj, rfl⟩ := List.mem_iff_getElem.1 hr
   exact hok j _ (Nat.zero_le _) (List.getElem?_eq_getElem hj))]
  rw [show ((0 : Nat) : Int) = 0 from rfl] at hc
  clear hm hE hA hok
  obtain ⟨cols, k1, k2, k3, k4⟩ := s
  simp only [Yi, Yj] at *
  rw [Zz (X := X) _ Bd _ rfl rfl]; unfold Bd
  refine ah @gL ?_
  refine aj ?_
  rw [hc]
  refine rn trivial ?_
  exact re trivial
 ·have : cT s rs = false := by
   cases h : cT s rs
   ·rfl
   ·have := (gx h).2 r hr
    rw [hf] at this; cases this
  rw [this]
  rw [show ((0 : Nat) : Int) = 0 from rfl] at hc
  clear this hm hE hA hf hr
  obtain ⟨cols, k1, k2, k3, k4⟩ := s
  simp only [Yi, Yj] at *
  rw [Zz (X := X) _ Bd _ rfl rfl]; unfold Bd
  refine ah @gL ?_
  refine aj ?_
  rw [hc]
  refine rn trivial ?_
  exact re trivial
structure TwinC (n : Nat) (az bs : List RC) : Prop where
 la : az.length = n
 lb : bs.length = n
 oa : ∀ c ∈ az, c.Ok
 ob : ∀ c ∈ bs, c.Ok
 eq : ∀ (k : Nat) (c d : RC), az[k]? = some c → bs[k]? = some d → c.n = d.n ∧ c.ys = d.ys ∧ c.bs = d.bs
theorem NV {h : Zb} {O1 O2 C1 C2 : DV} {p1 p2 p3 p4 q1 q2 q3 q4 : Int} {a b n : Nat} {az bs : List RC} (hT : TwinC n az bs) (hn : n ≤ 1000) (h1 : ∀ g, vw g 3 C1 = some (az.map RC.d)) (h2 : ∀ g, vw g 3 C2 = some (bs.map RC.d)) (ha : h[a]? = some (.box 28 [.int .i64 p1, .int .i64 p2, .int .i64 p3, .int .i64 p4, O1, C1])) (hb : h[b]? = some (.box 28 [.int .i64 q1, .int .i64 q2, .int .i64 q3, .int .i64 q4, O2, C2])) :
 ∀ (q i : Nat), n - i ≤ q → i ≤ n → ∃ ex, C X (.loop rZ) [(2, .ref a 0), (3, .ref b 0), (6, .int .i64 i)] h = some (.exit 0, ex, h) := by
 have hal : (az.map RC.d).length = n := by rw [List.length_map, hT.la]
 have Fy : (bs.map RC.d).length = n := by rw [List.length_map, hT.lb]
 intro q
 induction q with
 | zero =>
  intro i hq hi
  obtain rfl : i = n := by omega
  have Am := hT.la
  rw [Zc]
  unfold rZ
  refine rn (ej @ha @hb @h1 @hal @Am) ?_
  rw [Zw]
  exact ⟨_, rfl⟩
 | succ q ih =>
  intro i hq hi
  by_cases c : i < n
  case neg => exact ih i (by omega) hi
  have c' : (i : Int) < (n : Int) := by omega
  obtain ⟨I, hI⟩ : ∃ I, I = i + 1 := ⟨_, rfl⟩
  have z1 : IntKind.i64.wrap ((i : Int) + 1) = (I : Int) := wr
  have Am := hT.la
  have IB := hT.lb
  have ia : i < az.length := by omega
  have ib : i < bs.length := by omega
  obtain ⟨x, hx⟩ : ∃ x, x = az[i] := ⟨_, rfl⟩
  obtain ⟨y, hy⟩ : ∃ y, y = bs[i] := ⟨_, rfl⟩
  have U7 : az[i].d = .agg [.int .i64 x.n, x.D, x.B] := by rw [← hx]; rfl
  have U4 : bs[i].d = .agg [.int .i64 x.n, y.D, y.B] := by
   rw [← hy, (hT.eq i x y (by rw [hx]; exact List.getElem?_eq_getElem ia) (by rw [hy]; exact List.getElem?_eq_getElem ib)).1]; rfl
  obtain ⟨_, g2, g3⟩ := hT.eq i x y (by rw [hx]; exact List.getElem?_eq_getElem ia) (by rw [hy]; exact List.getElem?_eq_getElem ib)
  have jf := hT.oa x (by rw [hx]; exact List.getElem_mem ia)
  have E5 := hT.ob y (by rw [hy]; exact List.getElem_mem ib)
  have l8 : ∀ g, E X 39 [.agg [.int .i64 x.n, x.D, x.B], .agg [.int .i64 x.n, y.D, y.B]] g = some (.bool true, g) := fun g =>
   Ri (h := g) (n := x.n) jf.dict.vw (by rw [g2]; exact E5.dict.vw) jf.bytes.vw (by rw [g3]; exact E5.bytes.vw) (by have := jf.yl; omega) (by have := jf.bl; omega)
  have wh := jf.dict.one
  have iX := jf.bytes.one'
  have VU := E5.dict.one
  have gH := E5.bytes.one'
  have hs : C X rZ [(2, .ref a 0), (3, .ref b 0), (6, .int .i64 i)] h = some (.norm, [(2, .ref a 0), (3, .ref b 0), (6, .int .i64 I)], h) := by
   clear ih hT jf E5 g2 g3
   unfold rZ
   refine ah (sS @c @c' @ia @ib @Am @IB @z1 @ha @hb @h1 @h2 @U7 @U4 @wh @VU @iX @gH @hal @Fy @l8) ?_
   simp [Za, lk]
  rw [Zc, hs, ZB]
  exact ih I (by omega) (by omega)
theorem Kb {H : Zb} {O1 O2 C1 C2 : DV} {p1 p2 p3 p4 : Int} {n : Nat} {zs : List Int} {az bs : List RC} (hT : TwinC n az bs) (hn : n ≤ 1000) (h1 : ∀ g, vw g 3 C1 = some (az.map RC.d)) (h2 : ∀ g, vw g 3 C2 = some (bs.map RC.d)) (o1 : ∀ G, vw (H ++ G) 1 O1 = some (zs.map intD)) (o2 : ∀ G, vw (H ++ G) 1 O2 = some (zs.map intD)) (hz : zs.length ≤ 1000) :
 E X 15 [.agg [.int .i64 p1, .int .i64 p2, .int .i64 p3, .int .i64 p4, O1, C1], .agg [.int .i64 p1, .int .i64 p2, .int .i64 p3, .int .i64 p4, O2, C2]] H = some (.bool true, H) := by
 obtain ⟨H1, aF⟩ : ∃ H1, H1 = H ++ [HO.box 28 [.int .i64 p1, .int .i64 p2, .int .i64 p3, .int .i64 p4, O1, C1], HO.box 28 [.int .i64 p1, .int .i64 p2, .int .i64 p3, .int .i64 p4, O2, C2]] := ⟨_, rfl⟩
 have hal : (az.map RC.d).length = n := by rw [List.length_map, hT.la]
 have Fy : (bs.map RC.d).length = n := by rw [List.length_map, hT.lb]
 have Am := hT.la
 have IB := hT.lb
 have q1 : vw H1 1 O1 = some (zs.map intD) := by rw [aF]; exact o1 _
 have q2 : vw H1 1 O2 = some (zs.map intD) := by rw [aF]; exact o2 _
 have qh := vl (h := H1) (xs := zs) (ys := zs) q1 q2 (by omega)
 rw [decide_eq_true rfl] at qh
 obtain ⟨ex, hc⟩ := NV (h := H1) (p1 := p1) (p2 := p2) (p3 := p3) (p4 := p4) (q1 := p1) (q2 := p2) (q3 := p3) (q4 := p4) (O1 := O1) (O2 := O2) (a := H.length) (b := H.length + 1) hT hn h1 h2 (by rw [aF]; simp) (by rw [aF]; simp) n 0 (by omega) (by omega)
 rw [show ((0 : Nat) : Int) = 0 from rfl] at hc
 have ht1 : H1.take H.length = H := by rw [aF]; exact List.take_left
 have hf : fin H H1 [.bool true] = (.bool true, H) := by simp [fin, ht1, aJ, aO]
 have n0 : ((n : Int) != (n : Int)) = false := by simp
 have n1 : (p1 != p1) = false := by simp
 have n2 : (p2 != p2) = false := by simp
 have n3 : (p3 != p3) = false := by simp
 have n4 : (p4 != p4) = false := by simp
 clear hT q1 q2 o1 o2 ht1
 subst aF
 rw [Zz (X := X) _ Qn _ rfl rfl]; unfold Qn
 refine ah (iG @qh @h1 @h2 @hal @Fy @Am @IB @n0 @n1 @n2 @n3 @n4) ?_
 refine aj ?_
 rw [hc]
 refine rn trivial ?_
 simp only [Zn, ZW, lk, Za, List.map_cons, List.map_nil, reduceIte, Option.map_some, Nat.reduceEqDiff, hf]
theorem J7 (p1 p2 p3 p4 : Int) (Of Cs : DV) (H : Zb) : E X 37 [.agg [.int .i64 p1, .int .i64 p2, .int .i64 p3, .int .i64 p4, Of, Cs]] H = some (.bool (aX p1 p2 p3 p4), H) := by
 by_cases c1 : 0 ≤ p1
 case neg =>
  rw [show aX p1 p2 p3 p4 = false by simp [aX, c1]]
  rw [Zz (X := X) _ oD _ rfl rfl]; unfold oD; exact rg @c1
 by_cases c2 : p1 < 4
 case neg =>
  rw [show aX p1 p2 p3 p4 = false by simp [aX, c1, c2]]
  rw [Zz (X := X) _ oD _ rfl rfl]; unfold oD; exact rg (aL @c1 @c2)
 by_cases c3 : 1 ≤ p2
 case neg =>
  rw [show aX p1 p2 p3 p4 = false by simp [aX, c1, c2, c3]]
  rw [Zz (X := X) _ oD _ rfl rfl]; unfold oD; exact rg (cH @c1 @c2 @c3)
 by_cases c4 : p2 ≤ 1073741824
 case neg =>
  rw [show aX p1 p2 p3 p4 = false by simp [aX, c1, c2, c3, c4]]
  rw [Zz (X := X) _ oD _ rfl rfl]; unfold oD; exact rg (cP @c1 @c2 @c3 @c4)
 by_cases c5 : 0 ≤ p3
 case neg =>
  rw [show aX p1 p2 p3 p4 = false by simp [aX, c1, c2, c3, c4, c5]]
  rw [Zz (X := X) _ oD _ rfl rfl]; unfold oD; exact rg (ej @c1 @c2 @c3 @c4 @c5)
 by_cases c6 : p3 ≤ p4
 case neg =>
  rw [show aX p1 p2 p3 p4 = false by simp [aX, c1, c2, c3, c4, c5, c6]]
  rw [Zz (X := X) _ oD _ rfl rfl]; unfold oD; exact rg (gJ @c1 @c2 @c3 @c4 @c5 @c6)
 rw [show aX p1 p2 p3 p4 = decide (p4 ≤ 1099511627776) by simp [aX, c1, c2, c3, c4, c5, c6]]
 rw [Zz (X := X) _ oD _ rfl rfl]; unfold oD; exact rg (gJ @c1 @c2 @c3 @c4 @c5 @c6)
theorem Rf {H : Zb} {Cd d e : DV} {s : Sch} {a b : List V} (aI : Cd.one = true) (da : ∀ L, vw (H ++ L) 4 d = some (a.map V.d)) (d1 : d.one = true) (ea : ∀ L, vw (H ++ L) 4 e = some (b.map V.d)) (e1 : e.one = true) (ha : s.sort < a.length) (hb : s.sort < b.length) (sa : ∀ v ∈ a, Sm v) (sb : ∀ v ∈ b, Sm v) : E X 42 [Yi Cd s, d, e] H = some (.bool (decide (0 < kN s a b)), H) := by
 unfold kN
 have bh := dD d1
 have VA := dD e1
 unfold DV.cells at bh VA
 by_cases c1 : s.sort < 0
 ·rw [if_pos c1]
  have c2 : ¬ 0 ≤ s.sort := by omega
  obtain ⟨cols, k1, k2, k3, k4⟩ := s
  simp only [Yi, Yj] at *
  rw [Zz (X := X) _ GQ _ rfl rfl]; unfold GQ; exact rg (aL @c1 @c2)
 rw [if_neg c1]
 obtain ⟨j, hj⟩ : ∃ j : Nat, s.sort = (j : Int) := ⟨s.sort.toNat, by omega⟩
 have qT : j < a.length := by omega
 have hjb : j < b.length := by omega
 have SU := List.getElem?_eq_getElem qT
 have SS := List.getElem?_eq_getElem hjb
 rw [hj, Int.toNat_natCast, List.getD_eq_getElem?_getD, List.getD_eq_getElem?_getD, SU, SS, Option.getD_some, Option.getD_some]
 have mM := fun g => J8 a[j] b[j] (sa _ (List.getElem_mem qT)) (sb _ (List.getElem_mem hjb)) g
 obtain ⟨va, ua⟩ : ∃ va, va = a[j] := ⟨_, rfl⟩
 obtain ⟨vb, hvb⟩ : ∃ vb, vb = b[j] := ⟨_, rfl⟩
 have Iu := ua.symm
 have Is := hvb.symm
 rw [← ua, ← hvb] at mM
 rw [← ua, ← hvb]
 have dB := da [.box 24 [Cd, .int .i64 s.key, .int .i64 s.cmp, .int .i64 s.del, .int .i64 s.sort]]
 have eB := ea [.box 24 [Cd, .int .i64 s.key, .int .i64 s.cmp, .int .i64 s.del, .int .i64 s.sort]]
 have k0 : (0 : Int) ≤ (j : Int) := by omega
 have UX : ¬ (j : Int) < 0 := by omega
 clear da ea ua hvb ha hb
 generalize ord va vb = r at *
 obtain ⟨cols, k1, k2, k3, k4⟩ := s
 obtain ⟨ak, an, as', at'⟩ := va
 obtain ⟨bk, bn, bs', Ws⟩ := vb
 simp only [V.d, Yi, Yj] at *
 subst hj
 have hdn : d ≠ .nils := by
  rintro rfl
  have h1 : some ([] : List DV) = some (List.map V.d a) := dB
  injection h1 with h1
  have h2 := congrArg List.length h1
  rw [List.length_map, List.length_nil] at h2
  omega
 have Fu : e ≠ .nils := by
  rintro rfl
  have h1 : some ([] : List DV) = some (List.map V.d b) := eB
  injection h1 with h1
  have h2 := congrArg List.length h1
  rw [List.length_map, List.length_nil] at h2
  omega
 rcases jw dB with h | ⟨s1, l1, cc, rfl⟩ | ⟨o1, g1, N0, n1, cc, rfl⟩
 ·exact absurd h hdn
 all_goals rcases jw eB with h | ⟨s2, l2, PS, rfl⟩ | ⟨o2, g2, UV, n2, PS, rfl⟩ <;> first | (exact absurd h Fu) | (clear hdn Fu; rw [Zz (X := X) _ GQ _ rfl rfl]; unfold GQ; exact dO (dK @dB @eB @qT @hjb @Iu @Is @SU @SS @mM @k0 @UX))
def uW (s : Sch) (rs : List (List V)) (i : Nat) (out : List Nat) : Prop := out.Perm (List.range i) ∧ out.Pairwise (Lx (dl s rs))
theorem uW.len {s : Sch} {rs : List (List V)} {i : Nat} {out : List Nat} (h : uW s rs i out) : out.length = i := by rw [h.1.length_eq]; simp
theorem uW.step {s : Sch} {rs : List (List V)} {i p : Nat} {out : List Nat} (h : uW s rs i out) (hp : p ≤ out.length) (h1 : ∀ j z, p ≤ j → out[j]? = some z → 0 < dl s rs z i) (h2 : p = 0 ∨ ∃ q, out[p - 1]? = some q ∧ dl s rs q i ≤ 0) : uW s rs (i + 1) ((out.take p ++ [i]) ++ out.drop p) := by
 have Kt := h.2
 refine ⟨?_, ?_⟩
 ·rw [List.range_succ]
  have e1 : ((out.take p ++ [i]) ++ out.drop p).Perm (i :: out) := by
   rw [List.append_assoc]
   refine List.perm_middle.trans ?_
   simp
  exact e1.trans ((List.Perm.cons i h.1).trans (List.perm_append_comm (l₁ := [i])))
 ·have hlt : ∀ z ∈ out, z < i := fun z hz => List.mem_range.1 (h.1.mem_iff.1 hz)
  have hx : ∀ x ∈ out.take p, Lx (dl s rs) x i := fun x hx => by
   have aY := hlt x (List.mem_of_mem_take hx)
   obtain ⟨jx, hj, rfl⟩ := List.mem_iff_getElem.1 hx
   rw [List.length_take] at hj
   rcases h2 with h2 | ⟨q, hq, hc⟩
   ·omega
   ·obtain ⟨Vg, hq2⟩ := List.getElem?_eq_some_iff.1 hq
    have Vs : jx < out.length := by omega
    have e1 : (out.take p)[jx]'(by rw [List.length_take]; omega) = out[jx] := List.getElem_take
    rw [e1] at aY ⊢
    have hle : dl s rs out[jx] i ≤ 0 := by
     by_cases c : jx = p - 1
     ·subst c; rw [hq2]; exact hc
     ·have hl := List.pairwise_iff_getElem.1 Kt jx (p - 1) Vs Vg (by omega)
      rw [hq2] at hl
      refine qu s rs _ q _ ?_ hc
      rcases hl with hl | hl <;> omega
    rcases Int.lt_or_eq_of_le hle with c | c
    ·exact .inl c
    ·exact .inr ⟨c, aY⟩
  have hy : ∀ y ∈ out.drop p, Lx (dl s rs) i y := fun y hy => by
   obtain ⟨j, hj⟩ := List.mem_iff_getElem?.1 hy
   rw [List.getElem?_drop] at hj
   exact .inl ((oN s rs y i).2 (h1 (p + j) y (by omega) hj))
  have Dh := Kt
  rw [← List.take_append_drop p out, List.pairwise_append] at Dh
  rw [List.pairwise_append, List.pairwise_append]
  refine ⟨⟨Dh.1, List.pairwise_singleton _ _, fun x hx' y hy' => by rw [List.mem_singleton.1 hy']; exact hx x hx'⟩, Dh.2.1, fun x hx' y hy' => ?_⟩
  rcases List.mem_append.1 hx' with h' | h'
  ·exact Dh.2.2 x h' y hy'
  ·rw [List.mem_singleton.1 h']; exact hy y hy'
theorem aT.slc {T sz : Nat} {H h : Zb} {d : DV} {xs : List DV} (hg : aT T sz H h d xs) {l m : Nat} (hl : l ≤ m) (hm : m ≤ xs.length) : ∃ S, (∀ h', fF h' d l m xs.length false = some (S, h')) ∧ ∀ h' : Zb, h'.take h.length = h → aM h' sz S = some ((xs.take m).drop l) := by
 rcases hg.2 with ⟨rfl, rfl⟩ | ⟨g, o, rfl, h2, h3⟩
 ·refine ⟨.nils, fun _ => rfl, fun h' _ => ?_⟩
  simp [aM, Go.Proofs.YtmbgfbomgbdjeaaGreatDoor.vw]
 ·refine ⟨.row o g (0 + l) (m - l) (false || (false && decide (m = xs.length))), fun h' => ?_, fun h' hh => ?_⟩
  ·simp [fF]
  ·have h4 := jN hh h3
   rw [List.drop_take]
   simp only [aM, Go.Proofs.YtmbgfbomgbdjeaaGreatDoor.vw, h4, Nat.zero_add]
   rw [if_pos (by simp; omega)]
theorem Ia {h : Zb} {Cd A d : DV} {b i : Nat} {s : Sch} {out : List Nat} {ds : List DV} {rs : List (List V)} (aI : Cd.one = true) (hb : h[b]? = some (.box 24 [Cd, .int .i64 s.key, .int .i64 s.cmp, .int .i64 s.del, .int .i64 s.sort])) (hA : vw h 1 A = some ds) (hE : bg h ds rs) (hd : vw h 1 d = some (out.map iD)) (hi : i < rs.length) (ho : ∀ z ∈ out, z < rs.length) (hs : ∀ r ∈ rs, s.sort < r.length) (hm : ∀ r ∈ rs, ∀ v ∈ r, Sm v) (iV : out.length ≤ 1000) :
 ∀ (q : Nat), q ≤ out.length → (∀ j z, q ≤ j → out[j]? = some z → 0 < dl s rs z i) → ∃ ex p, C X (.loop pH) [(1, A), (2, .ref b 0), (6, d), (7, .int .i64 i), (8, .int .i64 q)] h = some (.exit 2, (1, A) :: (2, .ref b 0) :: (6, d) :: (7, .int .i64 i) :: (8, .int .i64 (p : Nat)) :: ex, h) ∧ p ≤ out.length ∧ (∀ j z, p ≤ j → out[j]? = some z → 0 < dl s rs z i) ∧ (p = 0 ∨ ∃ z, out[p - 1]? = some z ∧ dl s rs z i ≤ 0) := by
 intro q
 induction q with
 | zero =>
  intro hq hj
  refine ⟨[(40, .bool false)], 0, ?_, by omega, hj, .inl rfl⟩
  rw [Zc]
  unfold pH
  clear hE hj ho hs hm
  rw [show ((0 : Nat) : Int) = 0 from rfl]
  refine rn @hd ?_
  rw [Zw]
  simp [Za, lk]
 | succ q ih =>
  intro hq hj
  obtain ⟨Q, hQ⟩ : ∃ Q, Q = q + 1 := ⟨_, rfl⟩
  rw [← hQ] at hq hj ⊢
  have z1 : IntKind.i64.wrap ((Q : Int) - 1) = (q : Int) := wr
  have c0 : (0 : Int) < (Q : Int) := by omega
  have Td : 0 < Q := by omega
  have qo : q < out.length := by omega
  obtain ⟨z, hz⟩ : ∃ z, out[q]? = some z := ⟨out[q], List.getElem?_eq_getElem qo⟩
  have dh := ho z (List.mem_of_getElem? hz)
  obtain ⟨a, ha⟩ : ∃ a, rs[z]? = some a := ⟨rs[z], List.getElem?_eq_getElem dh⟩
  obtain ⟨r, hr⟩ : ∃ r, rs[i]? = some r := ⟨rs[i], List.getElem?_eq_getElem hi⟩
  have bj := hE.1
  obtain ⟨d1, bh⟩ : ∃ d1, ds[z]? = some d1 := ⟨ds[z]'(by omega), List.getElem?_eq_getElem _⟩
  obtain ⟨d2, dH⟩ : ∃ d2, ds[i]? = some d2 := ⟨ds[i]'(by omega), List.getElem?_eq_getElem _⟩
  obtain ⟨va, oa⟩ := hE.2 z d1 a bh ha
  obtain ⟨vr, or⟩ := hE.2 i d2 r dH hr
  have Gf := Rf (H := h) (s := s) (Cd := Cd) (d := d1) (e := d2) aI va oa vr or (hs a (List.mem_of_getElem? ha)) (hs r (List.mem_of_getElem? hr)) (hm a (List.mem_of_getElem? ha)) (hm r (List.mem_of_getElem? hr))
  have hrc : kN s a r = dl s rs z i := by unfold dl; rw [List.getD_eq_getElem?_getD, List.getD_eq_getElem?_getD, ha, hr]; rfl
  rw [hrc] at Gf
  have xo : q < (out.map iD).length := by rw [List.length_map]; omega
  have q1 : (out.map iD)[q]? = some (.int .i64 (z : Nat)) := by rw [List.getElem?_map, hz]; rfl
  have ig : (out.map iD)[q] = .int .i64 (z : Nat) := by rw [List.getElem?_eq_getElem xo] at q1; injection q1
  have zd : z < ds.length := by omega
  have id' : i < ds.length := by omega
  have tZ : ds[z] = d1 := by rw [List.getElem?_eq_getElem zd] at bh; injection bh
  have R6 : ds[i] = d2 := by rw [List.getElem?_eq_getElem id'] at dH; injection dH
  have oc := dD oa
  have rc := dD or
  unfold DV.cells at oc rc
  by_cases cc : 0 < dl s rs z i
  ·rw [decide_eq_true cc] at Gf
   obtain ⟨ex, p, hc, hp, g1, g2⟩ := ih (by omega) (fun j w WU hw => by
    by_cases e : j = q
    ·subst e
     have : w = z := by rw [hz] at hw; injection hw with hw; exact hw.symm
     subst this; exact cc
    ·exact hj j w (by omega) hw)
   refine ⟨ex, p, ?_, hp, g1, g2⟩
   have hs1 : C X pH [(1, A), (2, .ref b 0), (6, d), (7, .int .i64 i), (8, .int .i64 Q)] h = some (.norm, [(1, A), (2, .ref b 0), (6, d), (7, .int .i64 i), (8, .int .i64 q)], h) := by
    clear ih hj ho hs hm hE va vr ha hr hz hc g1 g2 hrc cc
    generalize out.map iD = od at *
    obtain ⟨cols, k1, k2, k3, k4⟩ := s
    simp only [Yi, Yj] at *
    unfold pH
    refine ah (sR @z1 @c0 @Td @hb @hA @hd @aI @xo @q1 @ig @zd @id' @bh @dH @tZ @R6 @oa @or @oc @rc @Gf) ?_
    simp [Za, lk]
   rw [Zc, hs1, ZB]
   exact hc
  ·rw [decide_eq_false cc] at Gf
   refine ⟨[(40, .bool false)], Q, ?_, by omega, hj, .inr ⟨z, by rw [hQ]; exact hz, by omega⟩⟩
   clear ih hj ho hs hm hE va vr ha hr hz hrc cc
   generalize out.map iD = od at *
   obtain ⟨cols, k1, k2, k3, k4⟩ := s
   simp only [Yi, Yj] at *
   rw [Zc]
   unfold pH
   refine ah (sR @z1 @c0 @Td @hb @hA @hd @aI @xo @q1 @ig @zd @id' @bh @dH @tZ @R6 @oa @or @oc @rc @Gf) ?_
   rw [Zw]
   simp [Za, lk]
theorem Ib {HB : Zb} {Cd A : DV} {b n : Nat} {s : Sch} {ds : List DV} {rs : List (List V)} (aI : Cd.one = true) (hb : HB[b]? = some (.box 24 [Cd, .int .i64 s.key, .int .i64 s.cmp, .int .i64 s.del, .int .i64 s.sort])) (hA : ∀ G, vw (HB ++ G) 1 A = some ds) (hE : bg HB ds rs) (hn : rs.length = n) (hn2 : n ≤ 1000) (hs : ∀ r ∈ rs, s.sort < r.length) (hm : ∀ r ∈ rs, ∀ v ∈ r, Sm v) :
 ∀ (k i : Nat) (h : Zb) (d : DV) (out : List Nat), n - i ≤ k → i ≤ n → uW s rs i out → aT 3 1 HB h d (out.map iD) → ∃ ex h' d' Z, C X (.loop rX) [(1, A), (2, .ref b 0), (6, d), (7, .int .i64 i)] h = some (.exit 0, (1, A) :: (2, .ref b 0) :: (6, d') :: ex, h') ∧ uW s rs n Z ∧ aT 3 1 HB h' d' (Z.map iD) := by
 intro k
 induction k with
 | zero =>
  intro i h d out hk hi hI hg
  obtain rfl : i = n := by omega
  refine ⟨[(7, .int .i64 i), (18, .bool false)], h, d, out, ?_, hI, hg⟩
  obtain ⟨G, hG⟩ := take_split hg.1
  have hA0 : vw h 1 A = some ds := by rw [hG]; exact hA _
  have bj : ds.length = i := by rw [hE.1, hn]
  rw [Zc]
  unfold rX
  refine rn (aL @hA0 @bj) ?_
  rw [Zw]
  simp [Za, lk]
 | succ k ih =>
  intro i h d out hk hi hI hg
  by_cases c : i < n
  case neg => exact ih i h d out (by omega) hi hI hg
  have c' : (i : Int) < (n : Int) := by omega
  obtain ⟨I, cA⟩ : ∃ I, I = i + 1 := ⟨_, rfl⟩
  have z1 : IntKind.i64.wrap ((i : Int) + 1) = (I : Int) := wr
  obtain ⟨G, hG⟩ := take_split hg.1
  have hA0 : vw h 1 A = some ds := by rw [hG]; exact hA _
  have Ci : bg h ds rs := by rw [hG]; exact hE.ext _
  have bj : ds.length = n := by rw [hE.1, hn]
  have iV := hI.len
  have fQ : (out.map iD).length = i := by rw [List.length_map]; exact iV
  obtain ⟨ex, p, hc, hp, g1, g2⟩ := Ia (h := h) (A := A) (d := d) (b := b) (i := i) (s := s) (out := out) aI (jN hg.1 hb) hA0 Ci hg.vw (by omega) (fun z hz => by have := List.mem_range.1 (hI.1.mem_iff.1 hz); omega) hs hm (by omega) i (by omega) (fun j z hj hz => by have := (List.getElem?_eq_some_iff.1 hz).1; omega)
  obtain ⟨S1, s1, v1⟩ := hg.slc (l := 0) (m := p) (by omega) (by rw [fQ]; omega)
  obtain ⟨S2, s2, v2⟩ := hg.slc (l := p) (m := i) (by omega) (by omega)
  have RZ := v1 h List.take_length
  rw [List.drop_zero] at RZ
  rw [List.take_of_length_le (by omega)] at v2
  obtain ⟨d1, h1, ha1, G1⟩ := (aT.zero (T := 3) (sz := 1) (H := h)).app 8 ((out.map iD).take p) (by simp only [List.length_take, List.length_nil]; omega)
  rw [List.nil_append] at G1
  obtain ⟨d2, h2, ha2, G2⟩ := G1.app 8 [.int .i64 (i : Nat)] (by simp only [List.length_take, List.length_cons, List.length_nil]; omega)
  obtain ⟨d3, h3, VF, G3⟩ := G2.app 8 ((out.map iD).drop p) (by simp only [List.length_take, List.length_drop, List.length_append, List.length_cons, List.length_nil]; omega)
  have w0 := hg.vw
  have w1 := G1.vw
  have w2 := G2.vw
  have UA := v2 h2 G2.1
  have Uz := vo G2.1 w0
  rw [fQ] at s1 s2
  have Ch := hI.step hp g1 g2
  have jg := G3.base hg.1
  rw [show ((out.map iD).take p ++ [DV.int .i64 (i : Nat)]) ++ (out.map iD).drop p = ((out.take p ++ [i]) ++ out.drop p).map iD by simp [List.map_take, List.map_drop]] at jg
  rw [← cA] at Ch
  have pi : p ≤ i := by omega
  have y1 : ∀ h, bL [.int .i64 (i : Nat)] h = some ([.int .i64 (i : Nat)], h) := fun _ => rfl
  have y2 : Wc 1 (.int .i64 (i : Nat)) := by simp [Wc, DV.cells, DV.one]
  have y3 : Nr (.int .i64 (i : Nat)) := .int _ _
  have y4 : ∀ h, aM h 1 (.list 1 [.int .i64 (i : Nat)] true) = some [.int .i64 (i : Nat)] := fun _ => rfl
  have vn : ∀ h, vw h 1 .nils = some [] := fun _ => rfl
  have hs1 : C X rX [(1, A), (2, .ref b 0), (6, d), (7, .int .i64 i)] h = some (.norm, [(1, A), (2, .ref b 0), (6, d3), (7, .int .i64 I)], h3) := by
   clear ih hI Ch hg jg G1 G2 G3 hs hm hE Ci hA v1 v2 g1 g2 hG hb
   generalize (out.map iD).take p = xa at *
   generalize (out.map iD).drop p = xb at *
   generalize out.map iD = xs at *
   unfold rX
   refine rn (gJ @c @c' @hA0 @bj @w0 @fQ) ?_
   refine aj ?_
   rw [hc]
   refine Tt (o9 @z1 @pi @w0 @w1 @w2 @Uz @fQ @s1 @s2 @RZ @UA @ha1 @ha2 @VF @y1 @y2 @y3 @y4 @vn) ?_
   simp [Za, lk]
  rw [Zc, hs1, ZB]
  exact ih I h3 d3 _ (by omega) (by omega) Ch jg
theorem J9 {H : Zb} {Cd A : DV} {s : Sch} {ds : List DV} {rs : List (List V)} (hC : ∀ g, vw g 3 Cd = some (s.cols.map Cl.d)) (aI : Cd.one = true) (hl : s.cols.length ≤ 1000) (aK : A.one = true) (hA : ∀ G, vw (H ++ G) 1 A = some ds) (hE : bg H ds rs) (hb : rs.length ≤ 1000) :
 (cT s rs = false ∧ E X 18 [Yi Cd s, A] H = some (.nils, H)) ∨ (cT s rs = true ∧ ∃ d Z, E X 18 [Yi Cd s, A] H = some (d, H) ∧ mh d Z ∧ OrdZ s rs Z) := by
 obtain ⟨HB, aN⟩ : ∃ HB, HB = H ++ [HO.box 24 [Cd, .int .i64 s.key, .int .i64 s.cmp, .int .i64 s.del, .int .i64 s.sort]] := ⟨_, rfl⟩
 have bR : ∀ G, vw (HB ++ G) 1 A = some ds := fun G => by rw [aN, List.append_assoc]; exact hA _
 have fU : bg HB ds rs := by rw [aN]; exact hE.ext _
 have eu := CZ (H := HB) (A := A) hC hl bR fU hb
 have cG := dD aK
 unfold DV.cells at cG
 cases hf : cT s rs
 ·left
  refine ⟨rfl, ?_⟩
  rw [hf] at eu
  clear bR fU hA hE
  subst aN
  obtain ⟨cols, k1, k2, k3, k4⟩ := s
  simp only [Yi, Yj] at *
  rw [Zz (X := X) _ G0 _ rfl rfl]; unfold G0; exact dO (cP @aI @aK @cG @eu)
 ·right
  refine ⟨rfl, ?_⟩
  rw [hf] at eu
  have hfits := gx hf
  obtain ⟨ex, h', d', Z, hc, hZ, hg⟩ := Ib (HB := HB) (Cd := Cd) (A := A) (b := H.length) (s := s) aI (by rw [aN]; simp) bR fU rfl hb (yy hf) (fun r hr v hv => uC (sQ (hfits.2 r hr) v hv)) rs.length 0 HB .nils [] (by omega) (by omega) ⟨List.Perm.refl _, .nil⟩ aT.zero
  rw [show ((0 : Nat) : Int) = 0 from rfl] at hc
  have hpre : HB.take H.length = H := by rw [aN]; exact List.take_left
  have hnr : ∀ x ∈ Z.map iD, Nr x := fun x hx => by
   obtain ⟨y, _, rfl⟩ := List.mem_map.1 hx
   exact .int _ _
  obtain ⟨d, aD, mK⟩ : ∃ d, fin H h' [d'] = (d, H) ∧ mh d Z := by
   rcases (hg.base hpre).fin hnr with ⟨h1, h2⟩ | ⟨_, h2⟩
   ·refine ⟨_, h2, .inl ⟨rfl, ?_⟩⟩
    rcases hg.2 with ⟨_, h3⟩ | ⟨g, o, h3, _⟩
    ·exact List.map_eq_nil_iff.1 h3
    ·rw [h1] at h3; cases h3
   ·exact ⟨_, h2, .inr rfl⟩
  refine ⟨d, Z, ?_, mK, ⟨hZ.1, hZ.2⟩⟩
  clear bR fU hA hE hg hZ hnr mK hfits
  subst aN
  obtain ⟨cols, k1, k2, k3, k4⟩ := s
  simp only [Yi, Yj] at *
  rw [Zz (X := X) _ G0 _ rfl rfl]; unfold G0
  refine ah (cP @aI @aK @cG @eu) ?_
  refine aj ?_
  rw [hc]
  refine rn trivial ?_
  simp only [Zn, ZW, lk, Za, List.map_cons, List.map_nil, reduceIte, Option.map_some, Nat.reduceEqDiff, aD]
theorem u5 : ∀ (ys ls : List V), Up ys → (∀ x ∈ ys, x ∈ ls) → ys.length ≤ ls.length
 | [], _, _, _ => by simp
 | y :: ys, ls, hu, hs => by
  have hp := List.pairwise_cons.1 hu
  obtain ⟨l1, l2, rfl⟩ := List.append_of_mem (hs y (by simp))
  have := u5 ys (l1 ++ l2) hp.2 (fun x hx => by
   have h1 := hs x (by simp [hx])
   have h2 := hp.1 x hx
   have h3 : x ≠ y := fun e => by subst e; exact gB x h2
   simp only [List.mem_append, List.mem_cons] at h1 ⊢
   rcases h1 with h1 | h1 | h1
   ·exact .inl h1
   ·exact absurd h1 h3
   ·exact .inr h1)
  simp only [List.length_append, List.length_cons] at this ⊢
  omega
structure BuiltR (ls : List V) (c : RC) : Prop where
 n : c.n = (ls.length : Int)
 bs : c.bs = pack (ls.map (place c.ys)) (wC c.ys.length)
 up : Up c.ys
 mem : ∀ x, x ∈ c.ys ↔ x ∈ ls
 may : ∀ x ∈ ls, aG x = true
 D : c.D = .list 4 (c.ys.map V.d) false
 B : bV c.B c.bs
theorem BuiltR.toC {ls : List V} {c : RC} (h : BuiltR ls c) : BuiltC ls ⟨c.n, c.ys, c.bs, c.D, .list 1 (c.bs.map bD) false⟩ :=
 ⟨h.n, h.bs, h.up, h.mem, u5 _ _ h.up (fun x hx => (h.mem x).1 hx), h.may, .inl h.D, rfl⟩
theorem BuiltR.ok {ls : List V} {c : RC} (h : BuiltR ls c) (hl : ls.length ≤ 200) : c.Ok := by
 have o := h.toC.ok hl
 exact ⟨o.dict, o.yl, o.sm, h.B, o.bb, o.bl⟩
theorem BuiltR.nr {ls : List V} {c : RC} (h : BuiltR ls c) : Nr c.d := by
 unfold RC.d
 refine .agg fun x hx => ?_
 simp only [List.mem_cons, List.mem_nil_iff, or_false] at hx
 rcases hx with rfl | rfl | rfl
 ·exact .int _ _
 ·rw [h.D]; exact .list (nq _)
 ·rcases h.B with ⟨h1, _⟩ | h1 <;> rw [h1]
  ·exact .nils
  ·refine .list fun x hx => ?_
   obtain ⟨y, _, rfl⟩ := List.mem_map.1 hx
   exact .int _ _
structure BldR (s : Sch) (rs : List (List V)) (Z : List Nat) (cs : List RC) : Prop where
 len : cs.length = s.cols.length
 col : ∀ k c, cs[k]? = some c → BuiltR (aV rs Z k) c
theorem Ho {s : Sch} {rs : List (List V)} {Z : List Nat} {az bs : List RC} (hA : BldC s rs Z az) (hB : BldR s rs Z bs) (hl : Z.length ≤ 200) : TwinC s.cols.length az bs :=
 ⟨hA.len, hB.len, fun c hc => by
  obtain ⟨k, hk, rfl⟩ := List.mem_iff_getElem.1 hc
  exact (hA.col k _ (List.getElem?_eq_getElem hk)).ok (by rw [k9]; omega), fun c hc => by
  obtain ⟨k, hk, rfl⟩ := List.mem_iff_getElem.1 hc
  exact (hB.col k _ (List.getElem?_eq_getElem hk)).ok (by rw [k9]; omega), fun k c d h1 h2 => by
  have h := (hA.col k c h1).same (hB.col k d h2).toC
  exact ⟨h.1, h.2.1, h.2.2⟩⟩
theorem zP {h : Zb} {A : DV} {a o : Nat} {L Of Cs : DV} {p1 p2 p3 p4 : Int} {zs : List Int} {b : Nat} (hL : vw h 1 L = some (zs.map intD)) (hb : h[b]? = some (.box 28 [.int .i64 p1, .int .i64 p2, .int .i64 p3, .int .i64 p4, Of, Cs])) (ho : h[o]? = some (.box 28 [.int .i64 0, .int .i64 0, .int .i64 0, .int .i64 0, .nils, .nils])) (hl : zs.length ≤ 1000) :

 ∀ (q i : Nat), zs.length - i ≤ q → i ≤ zs.length → ((∃ ex, C X (.loop eM) [(2, A), (3, L), (4, .ref a 0), (5, .ref b 0), (8, .ref o 0), (13, .int .i64 i)] h = some (.exit 0, (2, A) :: (3, L) :: (4, .ref a 0) :: (5, .ref b 0) :: (8, .ref o 0) :: ex, h)) ∧ ∀ j, i ≤ j → j < zs.length → fC p3 p4 zs j) ∨ (C X (.loop eM) [(2, A), (3, L), (4, .ref a 0), (5, .ref b 0), (8, .ref o 0), (13, .int .i64 i)] h = some (.ret, [(8, .ref o 0), (9, .nils), (10, .int .i64 1)], h) ∧ ∃ j, j < zs.length ∧ ¬ fC p3 p4 zs j) := by
 have Ca : (zs.map intD).length = zs.length := List.length_map _
 have hself : h.set o (.box 28 [.int .i64 0, .int .i64 0, .int .i64 0, .int .i64 0, .nils, .nils]) = h := by
  apply List.ext_getElem?
  intro j
  by_cases e : o = j
  ·subst e; rw [List.getElem?_set_self (List.getElem?_eq_some_iff.1 ho).1, ho]
  ·rw [List.getElem?_set_ne e]
 intro q
 induction q with
 | zero =>
  intro i hq hi
  obtain rfl : i = zs.length := by omega
  left
  refine ⟨?_, fun j h1 h2 => by omega⟩
  refine ⟨[(13, .int .i64 zs.length), (44, .bool false)], ?_⟩
  rw [Zc]
  unfold eM
  refine rn (aL @hL @Ca) ?_
  rw [Zw]
  simp [Za, lk]
 | succ q ih =>
  intro i hq hi
  by_cases c : i < zs.length
  ·obtain ⟨I, hI⟩ : ∃ I, I = i + 1 := ⟨_, rfl⟩
   have z1 : IntKind.i64.wrap ((i : Int) + 1) = (I : Int) := wr
   have Gq : (i : Int) < (zs.length : Int) := by omega
   obtain ⟨x, hx⟩ : ∃ x, x = zs[i] := ⟨_, rfl⟩
   have aY : zs[i]? = some x := by rw [hx]; exact List.getElem?_eq_getElem c
   have hx' := hx.symm
   have bad : C X eM [(2, A), (3, L), (4, .ref a 0), (5, .ref b 0), (8, .ref o 0), (13, .int .i64 i)] h = some (.ret, [(8, .ref o 0), (9, .nils), (10, .int .i64 1)], h) → ¬ fC p3 p4 zs i → ((∃ ex, C X (.loop eM) [(2, A), (3, L), (4, .ref a 0), (5, .ref b 0), (8, .ref o 0), (13, .int .i64 i)] h = some (.exit 0, (2, A) :: (3, L) :: (4, .ref a 0) :: (5, .ref b 0) :: (8, .ref o 0) :: ex, h)) ∧ ∀ j, i ≤ j → j < zs.length → fC p3 p4 zs j) ∨ (C X (.loop eM) [(2, A), (3, L), (4, .ref a 0), (5, .ref b 0), (8, .ref o 0), (13, .int .i64 i)] h = some (.ret, [(8, .ref o 0), (9, .nils), (10, .int .i64 1)], h) ∧ ∃ j, j < zs.length ∧ ¬ fC p3 p4 zs j) := fun hs hr => by
    right
    exact ⟨by rw [Zc, hs, aR], i, c, hr⟩
   have good : C X eM [(2, A), (3, L), (4, .ref a 0), (5, .ref b 0), (8, .ref o 0), (13, .int .i64 i)] h = some (.norm, [(2, A), (3, L), (4, .ref a 0), (5, .ref b 0), (8, .ref o 0), (13, .int .i64 I)], h) → fC p3 p4 zs i → ((∃ ex, C X (.loop eM) [(2, A), (3, L), (4, .ref a 0), (5, .ref b 0), (8, .ref o 0), (13, .int .i64 i)] h = some (.exit 0, (2, A) :: (3, L) :: (4, .ref a 0) :: (5, .ref b 0) :: (8, .ref o 0) :: ex, h)) ∧ ∀ j, i ≤ j → j < zs.length → fC p3 p4 zs j) ∨ (C X (.loop eM) [(2, A), (3, L), (4, .ref a 0), (5, .ref b 0), (8, .ref o 0), (13, .int .i64 i)] h = some (.ret, [(8, .ref o 0), (9, .nils), (10, .int .i64 1)], h) ∧ ∃ j, j < zs.length ∧ ¬ fC p3 p4 zs j) := fun hs hr => by
    rw [Zc, hs, ZB]
    rcases ih I (by omega) (by omega) with ⟨h1, h2⟩ | h1
    ·refine .inl ⟨h1, fun j h3 h4 => ?_⟩
     by_cases e : i = j
     ·subst e; exact hr
     ·exact h2 j (by omega) h4
    ·exact .inr h1
   clear ih hx
   by_cases c1 : x < p3
   ·refine bad ?_ (fun h => by have := (h x aY).1; omega)
    clear bad good
    unfold eM
    refine ah (dK @c @Gq @ho @hself @Ca @z1 @hL @hb @aY @hx' @c1) ?_
    simp [Za, lk]
   by_cases c2 : p4 ≤ x
   ·refine bad ?_ (fun h => by have := (h x aY).2.1; omega)
    clear bad good
    unfold eM
    refine ah (iG @c @Gq @ho @hself @Ca @z1 @hL @hb @aY @hx' @c1 @c2) ?_
    simp [Za, lk]
   by_cases c3 : i = 0
   ·subst c3
    refine good ?_ (fun z hz => by rw [aY] at hz; injection hz with hz; subst hz; exact ⟨by omega, by omega, fun h => absurd h (by omega)⟩)
    clear bad good
    obtain rfl : I = 1 := by omega
    have Mb : IntKind.i64.wrap 1 = 1 := rfl
    rw [show ((0 : Nat) : Int) = 0 from rfl] at *
    unfold eM
    refine ah (jD @c @Gq @ho @hself @Ca @z1 @Mb @hL @hb @aY @hx' @c1 @c2) ?_
    simp [Za, lk]
   obtain ⟨J, hJ⟩ : ∃ J, J = i - 1 := ⟨_, rfl⟩
   have z2 : IntKind.i64.wrap ((i : Int) - 1) = (J : Int) := wr
   have Gp : (0 : Int) < (i : Int) := by omega
   have uP : 0 < i := by omega
   have cJ : J < zs.length := by omega
   obtain ⟨y, hy⟩ : ∃ y, y = zs[J] := ⟨_, rfl⟩
   have vH : zs[J]? = some y := by rw [hy]; exact List.getElem?_eq_getElem cJ
   have hy' := hy.symm
   clear hy
   by_cases c4 : x ≤ y
   ·refine bad ?_ (fun h => by have := (h x aY).2.2 uP y (by rw [← hJ]; exact vH); omega)
    clear bad good
    unfold eM
    refine ah (o9 @c @Gq @ho @hself @Ca @z1 @z2 @hL @hb @aY @hx' @vH @hy' @cJ @c1 @c2 @Gp @uP @c4) ?_
    simp [Za, lk]
   ·refine good ?_ (fun z hz => by rw [aY] at hz; injection hz with hz; subst hz; exact ⟨by omega, by omega, fun _ w hw => by rw [← hJ, vH] at hw; injection hw with hw; omega⟩)
    clear bad good
    unfold eM
    refine ah (o9 @c @Gq @ho @hself @Ca @z1 @z2 @hL @hb @aY @hx' @vH @hy' @cJ @c1 @c2 @Gp @uP @c4) ?_
    simp [Za, lk]
  ·exact ih i (by omega) hi
theorem Ig {HS : Zb} {A O R : DV} {a b o n : Nat} {p1 p2 p3 p4 : Int} {Z : List Nat} {zs : List Int} (ho : o < HS.length) (hR : ∀ c h, h.take HS.length = HS.set o (.box 28 c) → vw h 1 R = some (Z.map iD) ∧ vw h 1 O = some (zs.map intD)) (hZ : Z.length = n) (hn : n ≤ 1000) (hlt : ∀ z ∈ Z, z < zs.length) :
 ∀ (k i : Nat) (h : Zb) (d : DV), n - i ≤ k → i ≤ n → aT 3 1 (HS.set o (.box 28 (aS p1 p2 p3 p4 d .nils))) h d ((Z.take i).map fun z => intD (zs.getD z 0)) →
  ∃ ex h' d', C X (.loop r8) [(2, A), (3, O), (4, .ref a 0), (8, .ref b 0), (14, .ref o 0), (15, R), (16, .int .i64 i)] h = some (.exit 2, (2, A) :: (3, O) :: (4, .ref a 0) :: (8, .ref b 0) :: (14, .ref o 0) :: (15, R) :: ex, h') ∧ aT 3 1 (HS.set o (.box 28 (aS p1 p2 p3 p4 d' .nils))) h' d' (Z.map fun z => intD (zs.getD z 0)) := by
 intro k
 induction k with
 | zero =>
  intro i h d hk hi hg
  obtain rfl : i = n := by omega
  have ht := hg.1
  rw [List.length_set] at ht
  obtain ⟨vR, _⟩ := hR _ h ht
  have mK : (Z.map iD).length = i := by rw [List.length_map, hZ]
  refine ⟨[(16, .int .i64 i), (99, .bool false)], h, d, ?_, by rwa [List.take_of_length_le (by omega)] at hg⟩
  rw [Zc]
  unfold r8
  clear hg hR ht
  generalize Z.map iD = Zd at *
  refine rn (aL @vR @mK) ?_
  rw [Zw]
  simp [Za, lk]
 | succ k ih =>
  intro i h d hk hi hg
  by_cases c : i < n
  case neg => exact ih i h d (by omega) hi hg
  have c' : (i : Int) < (n : Int) := by omega
  obtain ⟨I, cA⟩ : ∃ I, I = i + 1 := ⟨_, rfl⟩
  have z1 : IntKind.i64.wrap ((i : Int) + 1) = (I : Int) := wr
  obtain ⟨z, hz⟩ : ∃ z, Z[i]? = some z := ⟨Z[i]'(by omega), List.getElem?_eq_getElem _⟩
  have dh := hlt z (List.mem_of_getElem? hz)
  obtain ⟨y, hy⟩ : ∃ y, zs[z]? = some y := ⟨zs[z]'dh, List.getElem?_eq_getElem _⟩
  have sB : zs.getD z 0 = y := by rw [List.getD_eq_getElem?_getD, hy]; rfl
  have ht := hg.1
  rw [List.length_set] at ht
  obtain ⟨vR, vO⟩ := hR _ h ht
  obtain ⟨d2, h2, ha, hg2⟩ := hg.app 8 [.int .i64 y] (by simp; omega)
  have uJ := hg.inbox ho
  have Dp := hg2.inbox ho
  have dH := hg2.one
  have hc2 := dD dH
  unfold DV.cells at hc2
  have jg := hg2.boxed (c' := aS p1 p2 p3 p4 d2 .nils) ho
  have hw := hg.vw
  have bh := hg.one
  rw [show ((Z.take i).map fun z => intD (zs.getD z 0)) ++ [DV.int .i64 y] = (Z.take I).map fun z => intD (zs.getD z 0) by
   rw [cA, ← List.take_append_getElem (by omega : i < Z.length), List.map_append]
   rw [List.getElem?_eq_getElem (by omega)] at hz
   injection hz with hz
   simp only [List.map_cons, List.map_nil, hz, sB]] at jg
  have y1 : ∀ h, bL [.int .i64 y] h = some ([.int .i64 y], h) := fun _ => rfl
  have y2 : Wc 1 (.int .i64 y) := by simp [Wc, DV.cells, DV.one]
  have y3 : Nr (.int .i64 y) := .int _ _
  have y4 : ∀ h, aM h 1 (.list 1 [.int .i64 y] true) = some [.int .i64 y] := fun _ => rfl
  have zi : i < (Z.map iD).length := by simp; omega
  have zz : z < (zs.map intD).length := by simp; omega
  have q1 : (Z.map iD)[i]? = some (.int .i64 (z : Nat)) := by rw [List.getElem?_map, hz]; rfl
  have q2 : (zs.map intD)[z]? = some (.int .i64 y) := by rw [List.getElem?_map, hy]; rfl
  have ig : (Z.map iD)[i] = .int .i64 (z : Nat) := by rw [List.getElem?_eq_getElem zi] at q1; injection q1
  have tZ : (zs.map intD)[z] = .int .i64 y := by rw [List.getElem?_eq_getElem zz] at q2; injection q2
  have mK : (Z.map iD).length = n := by rw [List.length_map, hZ]
  have hs : C X r8 [(2, A), (3, O), (4, .ref a 0), (8, .ref b 0), (14, .ref o 0), (15, R), (16, .int .i64 i)] h = some (.norm, [(2, A), (3, O), (4, .ref a 0), (8, .ref b 0), (14, .ref o 0), (15, R), (16, .int .i64 I)], h2.set o (.box 28 (aS p1 p2 p3 p4 d2 .nils))) := by
   clear hg hg2 jg ih ht hR hlt hz hy sB
   generalize ((Z.take i).map fun z => intD (zs.getD z 0)) = xs at hw ha
   generalize Z.map iD = Zd at *
   generalize zs.map intD = zd at *
   unfold r8
   refine ah (I3 @c @c' @mK @z1 @vR @vO @zi @zz @q1 @q2 @ig @tZ @uJ @bh @y1 @y2 @y3 @y4 @hw @ha @Dp @dH @hc2) ?_
   simp [Za, lk]
  rw [Zc, hs, ZB]
  exact ih I _ d2 (by omega) (by omega) jg
theorem Ic {Hh : Zb} {A R : DV} {a b o n kk : Nat} {Z : List Nat} {ds : List DV} {rs : List (List V)} (hR : ∀ h : Zb, h.take Hh.length = Hh → vw h 1 R = some (Z.map iD) ∧ vw h 1 A = some ds ∧ ∀ (i : Nat) (d : DV) (vs : List V), ds[i]? = some d → rs[i]? = some vs → vw h 4 d = some (vs.map V.d) ∧ d.one = true) (hZ : Z.length = n) (hn : n ≤ 1000) (bj : ds.length = rs.length) (hlt : ∀ z ∈ Z, z < rs.length) (hkk : ∀ r ∈ rs, kk < r.length) :
 ∀ (k i : Nat) (h : Zb) (d : DV), n - i ≤ k → i ≤ n → aT 56 4 Hh h d ((aV rs (Z.take i) kk).map V.d) →
  ∃ ex h' d', C X (.loop r6) [(2, A), (4, .ref a 0), (8, .ref b 0), (14, .ref o 0), (15, R), (17, .int .i64 kk), (18, d), (19, .int .i64 i)] h = some (.exit 6, (2, A) :: (4, .ref a 0) :: (8, .ref b 0) :: (14, .ref o 0) :: (15, R) :: (17, .int .i64 kk) :: (18, d') :: ex, h') ∧ aT 56 4 Hh h' d' ((aV rs Z kk).map V.d) := by
 intro k
 induction k with
 | zero =>
  intro i h d hk hi hg
  obtain rfl : i = n := by omega
  obtain ⟨vR, _, _⟩ := hR h hg.1
  have mK : (Z.map iD).length = i := by rw [List.length_map, hZ]
  refine ⟨[(19, .int .i64 i), (124, .bool false)], h, d, ?_, by rwa [List.take_of_length_le (by omega)] at hg⟩
  rw [Zc]
  unfold r6
  clear hg hR
  generalize Z.map iD = Zd at *
  refine rn (aL @vR @mK) ?_
  rw [Zw]
  simp [Za, lk]
 | succ k ih =>
  intro i h d hk hi hg
  by_cases c : i < n
  case neg => exact ih i h d (by omega) hi hg
  have c' : (i : Int) < (n : Int) := by omega
  obtain ⟨I, cA⟩ : ∃ I, I = i + 1 := ⟨_, rfl⟩
  have z1 : IntKind.i64.wrap ((i : Int) + 1) = (I : Int) := wr
  obtain ⟨z, hz⟩ : ∃ z, Z[i]? = some z := ⟨Z[i]'(by omega), List.getElem?_eq_getElem _⟩
  have dh := hlt z (List.mem_of_getElem? hz)
  obtain ⟨r, hr⟩ : ∃ r, rs[z]? = some r := ⟨rs[z]'dh, List.getElem?_eq_getElem _⟩
  have Fa := hkk r (List.mem_of_getElem? hr)
  obtain ⟨v, hv⟩ : ∃ v, r[kk]? = some v := ⟨r[kk]'Fa, List.getElem?_eq_getElem _⟩
  obtain ⟨e, he⟩ : ∃ e, ds[z]? = some e := ⟨ds[z]'(by omega), List.getElem?_eq_getElem _⟩
  have E8 : (rs.getD z []).getD kk v0 = v := by simp [List.getD_eq_getElem?_getD, hr, hv]
  obtain ⟨vR, vA, vE⟩ := hR h hg.1
  obtain ⟨vr, er⟩ := vE z e r he hr
  have hcl : ((aV rs (Z.take i) kk).map V.d).length ≤ 1000 := by unfold aV; simp; omega
  obtain ⟨d2, h2, ha, hg2⟩ := hg.app 40 [v.d] (by simp only [List.length_cons, List.length_nil]; omega)
  have hw := hg.vw
  rw [show (aV rs (Z.take i) kk).map V.d ++ [v.d] = (aV rs (Z.take I) kk).map V.d by
   unfold aV
   rw [cA, ← List.take_append_getElem (by omega : i < Z.length), List.map_append]
   rw [List.getElem?_eq_getElem (by omega)] at hz
   injection hz with hz
   simp only [List.map_append, List.map_cons, List.map_nil, hz, E8]] at hg2
  have y1 : ∀ h, bL [v.d] h = some ([v.d], h) := fun _ => rfl
  have y2 : Wc 4 v.d := by simp [Wc, DV.cells, V.d, DV.one]
  have y3 : Nr v.d := v.nr
  have y4 : ∀ h, aM h 4 (.list 4 [v.d] true) = some [v.d] := fun _ => rfl
  have zi : i < (Z.map iD).length := by simp; omega
  have q1 : (Z.map iD)[i]? = some (.int .i64 (z : Nat)) := by rw [List.getElem?_map, hz]; rfl
  have ig : (Z.map iD)[i] = .int .i64 (z : Nat) := by rw [List.getElem?_eq_getElem zi] at q1; injection q1
  have ze : z < ds.length := by omega
  have he' : ds[z] = e := by rw [List.getElem?_eq_getElem ze] at he; injection he
  have zr : kk < (r.map V.d).length := by simpa using Fa
  have q2 : (r.map V.d)[kk]? = some v.d := by rw [List.getElem?_map, hv]; rfl
  have tZ : (r.map V.d)[kk] = v.d := by rw [List.getElem?_eq_getElem zr] at q2; injection q2
  have ec := dD er
  unfold DV.cells at ec
  have mK : (Z.map iD).length = n := by rw [List.length_map, hZ]
  have hs : C X r6 [(2, A), (4, .ref a 0), (8, .ref b 0), (14, .ref o 0), (15, R), (17, .int .i64 kk), (18, d), (19, .int .i64 i)] h = some (.norm, [(2, A), (4, .ref a 0), (8, .ref b 0), (14, .ref o 0), (15, R), (17, .int .i64 kk), (18, d2), (19, .int .i64 I)], h2) := by
   clear hg hg2 ih hR hlt hkk hz E8 vE hcl hv hr
   generalize (aV rs (Z.take i) kk).map V.d = xs at hw ha
   generalize Z.map iD = Zd at *
   generalize r.map V.d = rd at *
   obtain ⟨vk, vn, vs', vt⟩ := v
   simp only [V.d] at *
   unfold r6
   refine ah (Uh @c @c' @mK @z1 @vR @vA @vr @er @ec @zi @ze @zr @he @he' @q1 @ig @q2 @tZ @y1 @y2 @y3 @y4 @hw @ha) ?_
   simp [Za, lk]
  rw [Zc, hs, ZB]
  exact ih I h2 d2 (by omega) (by omega) hg2
theorem Ie {K : Zb} {A R Oq Cd : DV} {a b o n nc : Nat} {s : Sch} {p1 p2 p3 p4 : Int} {Z : List Nat} {ds : List DV} {rs : List (List V)} (hC : ∀ g, vw g 3 Cd = some (s.cols.map Cl.d)) (T9 : s.cols.length = nc) (ha : K[a]? = some (.box 24 [Cd, .int .i64 s.key, .int .i64 s.cmp, .int .i64 s.del, .int .i64 s.sort])) (hao : a ≠ o) (hK : BldV K o R A Z ds rs) (FF : Oq.one = true) (hZ : Z.length = n) (hn : n ≤ 200) (bj : ds.length = rs.length) (hlt : ∀ z ∈ Z, z < rs.length) (hnc : ∀ r ∈ rs, r.length = nc) (TW : nc ≤ 100) (hmay : ∀ r ∈ rs, ∀ v ∈ r, aG v = true) :
 ∀ (q k : Nat) (h : Zb) (d : DV) (cs : List RC), nc - k ≤ q → k ≤ nc → cs.length = k → (∀ j c, cs[j]? = some c → BuiltR (aV rs Z j) c) → aT 70 3 (K.set o (.box 28 (aS p1 p2 p3 p4 Oq d))) h d (cs.map RC.d) →
  ∃ (ex : Env) (h' : Zb) (d' : DV) (cs' : List RC), C X (.loop r7) [(2, A), (4, .ref a 0), (8, .ref b 0), (14, .ref o 0), (15, R), (17, .int .i64 k)] h = some (.exit 4, (2, A) :: (4, .ref a 0) :: (8, .ref b 0) :: (14, .ref o 0) :: (15, R) :: ex, h') ∧ cs'.length = nc ∧ (∀ j c, cs'[j]? = some c → BuiltR (aV rs Z j) c) ∧ aT 70 3 (K.set o (.box 28 (aS p1 p2 p3 p4 Oq d'))) h' d' (cs'.map RC.d) := by
 have hcd : (s.cols.map Cl.d).length = nc := by rw [List.length_map, T9]
 have hal := (List.getElem?_eq_some_iff.1 ha).1
 intro q
 induction q with
 | zero =>
  intro k h d cs hq hk hcl hcs hg
  obtain rfl : k = nc := by omega
  refine ⟨[(17, .int .i64 k), (118, .bool false)], h, d, cs, ?_, hcl, hcs, hg⟩
  have ht := hg.1
  rw [List.length_set] at ht
  have Ce : h[a]? = some (.box 24 [Cd, .int .i64 s.key, .int .i64 s.cmp, .int .i64 s.del, .int .i64 s.sort]) := by rw [jY ht hal hao]; exact ha
  clear hg hK ht hcs
  obtain ⟨cols, k1, k2, k3, k4⟩ := s
  simp only at *
  rw [Zc]
  unfold r7
  refine ah (cH @Ce @hC @hcd) ?_
  rw [Zw]
  simp [Za, lk]
 | succ q ih =>
  intro k h d cs hq hk hcl hcs hg
  by_cases c : k < nc
  case neg => exact ih k h d cs (by omega) hk hcl hcs hg
  have c' : (k : Int) < (nc : Int) := by omega
  obtain ⟨k2, OD⟩ : ∃ k2, k2 = k + 1 := ⟨_, rfl⟩
  have z1 : IntKind.i64.wrap ((k : Int) + 1) = (k2 : Int) := wr
  have ht := hg.1
  rw [List.length_set] at ht
  have hpre : ∀ h' : Zb, h'.take h.length = h → vw h' 1 R = some (Z.map iD) ∧ vw h' 1 A = some ds ∧ ∀ (i : Nat) (d : DV) (vs : List V), ds[i]? = some d → rs[i]? = some vs → vw h' 4 d = some (vs.map V.d) ∧ d.one = true := fun h' hh => hK.rd (aS p1 p2 p3 p4 Oq d) h' (by
   have hl : K.length ≤ h.length := by have := congrArg List.length ht; rw [List.length_take, List.length_set] at this; omega
   have e1 : h'.take K.length = (h'.take h.length).take K.length := by rw [List.take_take, Nat.min_eq_left hl]
   rw [e1, hh, ht])
  obtain ⟨vR, _, _⟩ := hpre h List.take_length
  have Ce : h[a]? = some (.box 24 [Cd, .int .i64 s.key, .int .i64 s.cmp, .int .i64 s.del, .int .i64 s.sort]) := by rw [jY ht hal hao]; exact ha
  obtain ⟨ex, h3, vd, hc, jg⟩ := Ic (a := a) (b := b) (o := o) (kk := k) hpre hZ (by omega) bj hlt (fun r hr => by rw [hnc r hr]; exact c) n 0 h .nils (by omega) (by omega) aT.zero
  rw [show ((0 : Nat) : Int) = 0 from rfl] at hc
  have Ak : (aV rs Z k).length = n := by unfold aV; rw [List.length_map, hZ]
  have mF : ∀ g : Zb, g.take h3.length = h3 → vw g 4 vd = some ((aV rs Z k).map V.d) := fun g hh => vo hh jg.vw
  have hcm : ∀ v ∈ aV rs Z k, aG v = true := fun v hv => by
   unfold aV at hv
   obtain ⟨z, hz, rfl⟩ := List.mem_map.1 hv
   have dh := hlt z hz
   have hr : rs.getD z [] = rs[z] := by simp [List.getD_eq_getElem?_getD, dh]
   rw [hr]
   have hm := List.getElem_mem dh
   have sG : k < rs[z].length := by rw [hnc _ hm]; exact c
   rw [List.getD_eq_getElem?_getD, List.getElem?_eq_getElem sG]
   exact hmay _ hm _ (List.getElem_mem _)
  rcases My (H := h3) mF (by omega) (fun v hv => uC (hcm v hv)) with ⟨ys, Rb, wE, hB, hU, hm, vQ⟩ | ⟨_, v, hv, kJ⟩
  case inr => exact absurd (hcm v hv) (by rw [kJ]; simp)
  obtain ⟨cc, bS⟩ : ∃ cc : RC, cc = ⟨((aV rs Z k).length : Nat), ys, pack ((aV rs Z k).map (place ys)) (wC ys.length), .list 4 (ys.map V.d) false, Rb⟩ := ⟨_, rfl⟩
  have hbc : BuiltR (aV rs Z k) cc := by
   rw [bS]; exact ⟨rfl, rfl, hU, hm, vQ, rfl, hB⟩
  have Al : cc.d = eS ((aV rs Z k).length : Nat) (.list 4 (ys.map V.d) false) Rb := by rw [bS]; rfl
  rw [← Al] at wE
  obtain ⟨h4, Af⟩ : ∃ h4, h4 = h3 ++ [HO.box 70 [.int .i64 cc.n, cc.D, cc.B]] := ⟨_, rfl⟩
  have sH : aT 70 3 (K.set o (.box 28 (aS p1 p2 p3 p4 Oq d))) h4 d (cs.map RC.d) := by
   obtain ⟨G, hG⟩ := take_split jg.1
   rw [Af, hG, List.append_assoc]
   exact hg.ext _
  obtain ⟨d2, h5, ha2, vU⟩ := sH.app 56 [cc.d] (by simp only [List.length_map, List.length_cons, List.length_nil]; omega)
  have Cg := sH.inbox hK.ol
  have OW := vU.inbox hK.ol
  have Fz : h3[o]? = some (.box 28 (aS p1 p2 p3 p4 Oq d)) := jN jg.1 (hg.inbox hK.ol)
  have dH := vU.one
  have hc2 := dD dH
  unfold DV.cells at hc2
  have hw := sH.vw
  have bh := sH.one
  have Ah := vU.boxed (c' := aS p1 p2 p3 p4 Oq d2) hK.ol
  have Px : h4[h3.length]? = some (.box 70 [.int .i64 cc.n, cc.D, cc.B]) := by rw [Af]; simp
  rw [show cs.map RC.d ++ [cc.d] = (cs ++ [cc]).map RC.d by rw [List.map_append]; rfl] at Ah
  have Aj : ∀ j c, (cs ++ [cc])[j]? = some c → BuiltR (aV rs Z j) c := fun j c hj => by
   by_cases e : j < cs.length
   ·rw [List.getElem?_append_left e] at hj; exact hcs j c hj
   ·have hl := (List.getElem?_eq_some_iff.1 hj).1
    rw [List.length_append, List.length_cons, List.length_nil] at hl
    have : j = cs.length := by omega
    subst this
    rw [List.getElem?_append_right (Nat.le_refl _), Nat.sub_self] at hj
    injection hj with hj
    rw [← hj, hcl]; exact hbc
  have y1 : ∀ h, bL [cc.d] h = some ([cc.d], h) := fun h => by
   unfold RC.d
   rcases hbc.B with ⟨h1, _⟩ | h1 <;> rw [hbc.D, h1] <;> rfl
  have y2 : Wc 3 cc.d := by
   unfold RC.d
   rcases hbc.B with ⟨h1, _⟩ | h1 <;> rw [hbc.D, h1] <;> simp [Wc, DV.cells, DV.one]
  have y3 : Nr cc.d := hbc.nr
  have y4 : ∀ h, aM h 3 (.list 3 [cc.d] true) = some [cc.d] := fun _ => rfl
  have wh : cc.D.one = true := by rw [hbc.D]; rfl
  have iX : cc.B.one = true := hbc.B.one'
  have hs : C X r7 [(2, A), (4, .ref a 0), (8, .ref b 0), (14, .ref o 0), (15, R), (17, .int .i64 k)] h = some (.norm, [(2, A), (4, .ref a 0), (8, .ref b 0), (14, .ref o 0), (15, R), (17, .int .i64 k2)], h5.set o (.box 28 (aS p1 p2 p3 p4 Oq d2))) := by
   have ow : (Z.map iD).length = n := by rw [List.length_map, hZ]
   clear hg jg vU Ah sH ih hpre hK ha hlt hnc hmay hcs Aj hbc hcm mF hm vQ hU hB bS Al ht
   generalize cs.map RC.d = xs at hw ha2
   generalize Z.map iD = Zd at *
   unfold RC.d at *
   obtain ⟨cols, zV, zU, zT, R7⟩ := s
   obtain ⟨cn, Wl, Wo, cD, cB⟩ := cc
   simp only at *
   unfold r7
   refine ah (fV @c @c' @vR @ow @Ce @hC @hcd) ?_
   refine aj ?_
   rw [hc]
   subst Af
   refine ah (sU @z1 @wE @Fz @Cg @OW @bh @dH @hc2 @wh @iX @y1 @y2 @y3 @y4 @hw @ha2 @Px) ?_
   simp [Za, lk]
  rw [Zc, hs, ZB]
  exact ih k2 _ d2 (cs ++ [cc]) (by omega) (by omega) (by rw [List.length_append, List.length_cons, List.length_nil]; omega) Aj Ah
theorem MH {H : Zb} {Cd A O Of Cs : DV} {s : Sch} {p1 p2 p3 p4 : Int} {ds : List DV} {rs : List (List V)} {zs : List Int} (hC : ∀ g, vw g 3 Cd = some (s.cols.map Cl.d)) (aI : Cd.one = true) (hl : s.cols.length ≤ 1000) (aK : A.one = true) (hA : ∀ G, vw (H ++ G) 1 A = some ds) (hE : bg H ds rs) (hb : rs.length ≤ 200) (hO : ∀ G, vw (H ++ G) 1 O = some (zs.map intD)) (dh : zs.length ≤ 1000) (hn : ¬ qL s p1 p2 p3 p4 rs zs) :
 E X 14 [Yi Cd s, .agg [.int .i64 p1, .int .i64 p2, .int .i64 p3, .int .i64 p4, Of, Cs], A, O] H = some (.tup [.agg [.int .i64 0, .int .i64 0, .int .i64 0, .int .i64 0, .nils, .nils], .nils, .int .i64 1], H) := by
 obtain ⟨HB, aN⟩ : ∃ HB, HB = H ++ [HO.box 24 [Cd, .int .i64 s.key, .int .i64 s.cmp, .int .i64 s.del, .int .i64 s.sort], .box 28 [.int .i64 p1, .int .i64 p2, .int .i64 p3, .int .i64 p4, Of, Cs], .box 28 [.int .i64 0, .int .i64 0, .int .i64 0, .int .i64 0, .nils, .nils]] := ⟨_, rfl⟩
 have bR : ∀ G, vw (HB ++ G) 1 A = some ds := fun G => by rw [aN, List.append_assoc]; exact hA _
 have j8 : ∀ G, vw (HB ++ G) 1 O = some (zs.map intD) := fun G => by rw [aN, List.append_assoc]; exact hO _
 have hA0 : vw HB 1 A = some ds := by have := bR []; rwa [List.append_nil] at this
 have oz : vw HB 1 O = some (zs.map intD) := by have := j8 []; rwa [List.append_nil] at this
 have fU : bg HB ds rs := by rw [aN]; exact hE.ext _
 have uq := J7 p1 p2 p3 p4 Of Cs
 have eu := CZ (H := HB) (A := A) hC hl bR fU (by omega)
 have cG := dD aK
 unfold DV.cells at cG
 have bj : ds.length = rs.length := hE.1
 have pW : (zs.map intD).length = zs.length := List.length_map _
 have key : (zs.length = rs.length → o7 p3 p4 zs → aX p1 p2 p3 p4 = true → cT s rs = true → False) := fun h1 h2 h3 h4 => hn ⟨h3, h4, h1, h2⟩
 cases h2 : cT s rs
 ·rw [h2] at eu
  clear bR j8 fU hA hO hE hn key
  subst aN
  generalize aX p1 p2 p3 p4 = hv at *
  obtain ⟨cols, k1, k2, k3, k4⟩ := s
  simp only [Yi, Yj] at *
  rw [Zz (X := X) _ ql _ rfl rfl]; unfold ql; exact dO (ej @aI @aK @cG @eu @uq)
 rw [h2] at eu
 cases h1 : aX p1 p2 p3 p4
 ·rw [h1] at uq
  clear bR j8 fU hA hO hE hn key
  subst aN
  obtain ⟨cols, k1, k2, k3, k4⟩ := s
  simp only [Yi, Yj] at *
  rw [Zz (X := X) _ ql _ rfl rfl]; unfold ql; exact dO (ej @aI @aK @cG @eu @uq)
 rw [h1] at uq
 by_cases h3 : zs.length = rs.length
 case neg =>
  have Aw : ((zs.length : Int) != (rs.length : Int)) = true := by simp only [bne_iff_ne, ne_eq]; omega
  clear bR j8 fU hA hO hE hn key
  subst aN
  obtain ⟨cols, k1, k2, k3, k4⟩ := s
  simp only [Yi, Yj] at *
  rw [Zz (X := X) _ ql _ rfl rfl]; unfold ql; exact dO (dL @aI @aK @cG @eu @uq @hA0 @oz @bj @pW @Aw)
 rcases zP (h := HB) (A := A) (L := O) (Of := Of) (Cs := Cs) (a := H.length) (b := H.length + 1) (o := H.length + 2) (p1 := p1) (p2 := p2) (p3 := p3) (p4 := p4) (zs := zs) oz (by rw [aN]; simp) (by rw [aN]; simp) (by omega) zs.length 0 (by omega) (by omega) with ⟨_, hall⟩ | ⟨Cb, _⟩
 case inl => exact (key h3 (fun j hj => hall j (by omega) hj) h1 h2).elim
 rw [show ((0 : Nat) : Int) = 0 from rfl] at Cb
 have Kl : ((rs.length : Int) != (rs.length : Int)) = false := by simp
 clear bR j8 fU hA hO hE hn key
 subst aN
 obtain ⟨cols, k1, k2, k3, k4⟩ := s
 simp only [Yi, Yj] at *
 rw [Zz (X := X) _ ql _ rfl rfl]; unfold ql
 refine ah (dK @aI @aK @cG @eu @uq @hA0 @oz @bj @pW @h3 @Kl) ?_
 refine aj ?_
 rw [Cb]
 refine ah trivial ?_
 exact UQ trivial
set_option maxHeartbeats 1000000 in
theorem Rn {H : Zb} {Cd A O Of Cs : DV} {s : Sch} {p1 p2 p3 p4 : Int} {ds : List DV} {rs : List (List V)} {zs : List Int} (hC : ∀ g, vw g 3 Cd = some (s.cols.map Cl.d)) (aI : Cd.one = true) (hl : s.cols.length ≤ 1000) (aK : A.one = true) (hA : ∀ G, vw (H ++ G) 1 A = some ds) (hE : bg H ds rs) (hb : rs.length ≤ 200) (hO : ∀ G, vw (H ++ G) 1 O = some (zs.map intD)) (hok : qL s p1 p2 p3 p4 rs zs) :
 ∃ O' C' R' Z cs, E X 14 [Yi Cd s, .agg [.int .i64 p1, .int .i64 p2, .int .i64 p3, .int .i64 p4, Of, Cs], A, O] H = some (.tup [.agg [.int .i64 p1, .int .i64 p2, .int .i64 p3, .int .i64 p4, O', C'], R', .int .i64 0], H) ∧ OrdZ s rs Z ∧ BldR s rs Z cs ∧ dN 1 R' (Z.map iD) ∧ dN 1 O' (Z.map fun z => intD (zs.getD z 0)) ∧ dN 3 C' (cs.map RC.d) := by
 obtain ⟨k1, k2, k3, k4⟩ := hok
 obtain ⟨HB, aN⟩ : ∃ HB, HB = H ++ [HO.box 24 [Cd, .int .i64 s.key, .int .i64 s.cmp, .int .i64 s.del, .int .i64 s.sort], .box 28 [.int .i64 p1, .int .i64 p2, .int .i64 p3, .int .i64 p4, Of, Cs], .box 28 [.int .i64 0, .int .i64 0, .int .i64 0, .int .i64 0, .nils, .nils]] := ⟨_, rfl⟩
 obtain ⟨H1, aF⟩ : ∃ H1, H1 = H ++ [HO.box 24 [Cd, .int .i64 s.key, .int .i64 s.cmp, .int .i64 s.del, .int .i64 s.sort], .box 28 [.int .i64 p1, .int .i64 p2, .int .i64 p3, .int .i64 p4, Of, Cs], .box 28 [.int .i64 0, .int .i64 0, .int .i64 0, .int .i64 0, .nils, .nils], .box 28 (aS p1 p2 p3 p4 .nils .nils)] := ⟨_, rfl⟩
 have bR : ∀ G, vw (HB ++ G) 1 A = some ds := fun G => by rw [aN, List.append_assoc]; exact hA _
 have j8 : ∀ G, vw (HB ++ G) 1 O = some (zs.map intD) := fun G => by rw [aN, List.append_assoc]; exact hO _
 have hA0 : vw HB 1 A = some ds := by have := bR []; rwa [List.append_nil] at this
 have oz : vw HB 1 O = some (zs.map intD) := by have := j8 []; rwa [List.append_nil] at this
 have fU : bg HB ds rs := by rw [aN]; exact hE.ext _
 have Av : ∀ G, vw (H1 ++ G) 1 A = some ds := fun G => by rw [aF, List.append_assoc]; exact hA _
 have Au : bg H1 ds rs := by rw [aF]; exact hE.ext _
 have uq := J7 p1 p2 p3 p4 Of Cs
 rw [k1] at uq
 have eu := CZ (H := HB) (A := A) hC hl bR fU (by omega)
 rw [k2] at eu
 rcases zP (h := HB) (A := A) (L := O) (Of := Of) (Cs := Cs) (a := H.length) (b := H.length + 1) (o := H.length + 2) (p1 := p1) (p2 := p2) (p3 := p3) (p4 := p4) (zs := zs) oz (by rw [aN]; simp) (by rw [aN]; simp) (by omega) zs.length 0 (by omega) (by omega) with ⟨⟨WY, Cb⟩, _⟩ | ⟨_, j, hj, hbad⟩
 case inr => exact absurd (k4 j hj) hbad
 rw [show ((0 : Nat) : Int) = 0 from rfl] at Cb
 rcases J9 (H := H1) (Cd := Cd) (s := s) hC aI hl aK Av Au (by omega) with ⟨hf, _⟩ | ⟨_, d, Z, qY, hd, hZ⟩
 case inl => rw [k2] at hf; cases hf
 have fA : A.isU = false := by cases A <;> first | rfl | simp [DV.one] at aK
 have cG := dD aK
 unfold DV.cells at cG
 unfold DV.isU at fA
 have bj : ds.length = rs.length := hE.1
 have pW : (zs.map intD).length = zs.length := List.length_map _
 obtain ⟨R, G, j5, sL, FA⟩ := xY (H := H1) hd
 obtain ⟨HS, pZ⟩ : ∃ HS, HS = H1 ++ G := ⟨_, rfl⟩
 rw [← pZ] at j5 sL
 obtain ⟨o, ho⟩ : ∃ o, o = H.length + 3 := ⟨_, rfl⟩
 have IG : H1.length = o + 1 := by rw [aF, ho]; simp
 have sF : o < HS.length := by rw [pZ, List.length_append]; omega
 have Ap : HS[o]? = some (.box 28 (aS p1 p2 p3 p4 .nils .nils)) := by
  rw [pZ, List.getElem?_append_left (by omega), aF, ho]; simp
 have Aq : HS.take H.length = H := by rw [pZ, aF, List.append_assoc]; exact List.take_left
 have ow : Z.length = rs.length := by rw [hZ.perm.length_eq]; simp
 have hlt : ∀ z ∈ Z, z < rs.length := fun z hz => List.mem_range.1 (hZ.perm.mem_iff.1 hz)
 have ve : HS.set o (.box 28 (aS p1 p2 p3 p4 .nils .nils)) = HS := by
  apply List.ext_getElem?
  intro j
  by_cases e : o = j
  ·subst e; rw [List.getElem?_set_self sF, Ap]
  ·rw [List.getElem?_set_ne e]
 have iV : H.length ≤ o := by omega
 obtain ⟨Wa, h1, Oq, hc0, hg0⟩ := Ig (HS := HS) (A := A) (O := O) (R := R) (a := H.length) (b := H.length + 2) (o := o) (n := rs.length) (p1 := p1) (p2 := p2) (p3 := p3) (p4 := p4) (Z := Z) (zs := zs) sF (fun c h ht => by
  have hp := jM ht iV sF Aq
  obtain ⟨G2, ei⟩ := take_split hp
  exact ⟨(sL.pre (by omega) ht).vw, by rw [ei]; exact hO _⟩) ow (by omega) (fun z hz => by have := hlt z hz; omega) rs.length 0 HS .nils (by omega) (by omega) (by rw [ve]; exact aT.zero)
 rw [show ((0 : Nat) : Int) = 0 from rfl] at hc0
 have ht1 := hg0.1
 rw [List.length_set] at ht1
 have Pf : HS.length ≤ h1.length := by have := congrArg List.length ht1; rw [List.length_take, List.length_set] at this; omega
 have oU : o < h1.length := by omega
 have Pe := hg0.inbox sF
 have Az := jM ht1 iV sF Aq
 have vf : h1.set o (.box 28 (aS p1 p2 p3 p4 Oq .nils)) = h1 := by
  apply List.ext_getElem?
  intro j
  by_cases e : o = j
  ·subst e; rw [List.getElem?_set_self oU, Pe]
  ·rw [List.getElem?_set_ne e]
 have uK : cK (o + 1) 3 1 h1 R (Z.map iD) := by
  have := sL.pre (by omega) ht1
  rwa [IG] at this
 have Ar : cK (o + 1) 3 1 h1 Oq (Z.map fun z => intD (zs.getD z 0)) := hg0.is.low (by rw [List.length_set]; omega)
 have hfits := gx k2
 have hK : BldV h1 o R A Z ds rs := ⟨fun c h ht => by
  have hp := jM ht iV oU Az
  obtain ⟨G2, ei⟩ := take_split hp
  refine ⟨(uK.pre (by omega) ht).vw, by rw [ei]; exact hA _, fun i d vs h1 h2 => ?_⟩
  obtain ⟨q1, q2⟩ := hE.2 i d vs h1 h2
  exact ⟨by rw [ei]; exact q1 _, q2⟩, oU⟩
 have Ck : h1[H.length]? = some (.box 24 [Cd, .int .i64 s.key, .int .i64 s.cmp, .int .i64 s.del, .int .i64 s.sort]) := by
  rw [jY ht1 (by omega) (by omega), pZ, List.getElem?_append_left (by omega), aF]; simp
 obtain ⟨SR, h2, Cq, cs, hc1, hcl, hcb, hg1⟩ := Ie (K := h1) (A := A) (R := R) (Oq := Oq) (s := s) (Cd := Cd) (a := H.length) (b := H.length + 2) (o := o) (n := rs.length) (nc := s.cols.length) (p1 := p1) (p2 := p2) (p3 := p3) (p4 := p4) (Z := Z) hC rfl Ck (by omega) hK hg0.one ow hb bj hlt (fun r hr => l7 (hfits.2 r hr)) (by have := (mQ hfits.1).2.1; omega) (fun r hr => sQ (hfits.2 r hr)) s.cols.length 0 h1 .nils [] (by omega) (by omega) rfl (fun j c hj => by simp at hj) (by rw [vf]; exact aT.zero)
 rw [show ((0 : Nat) : Int) = 0 from rfl] at hc1
 have kI := hg1.1
 rw [List.length_set] at kI
 have FL := hg1.inbox oU
 have FM := jM kI iV oU Az
 have Ay : h2[H.length + 2]? = some (.box 28 [.int .i64 0, .int .i64 0, .int .i64 0, .int .i64 0, .nils, .nils]) := by
  rw [jY kI (by omega) (by omega), jY ht1 (by omega) (by omega), pZ, List.getElem?_append_left (by omega), aF]; simp
 have Pb := (List.getElem?_eq_some_iff.1 Ay).1
 obtain ⟨h3, gu⟩ : ∃ h3, h3 = h2.set (H.length + 2) (.box 28 (aS p1 p2 p3 p4 Oq Cq)) := ⟨_, rfl⟩
 have FK : h3[H.length + 2]? = some (.box 28 (aS p1 p2 p3 p4 Oq Cq)) := by rw [gu, List.getElem?_set_self Pb]
 have FE := hg0.one
 have FJ := hg1.one
 obtain ⟨O', C', R', aD, l1, l2, l3⟩ := Cr (H := H) (h := h3) (p1 := p1) (p2 := p2) (p3 := p3) (p4 := p4) (Oq := Oq) (Cd := Cq) (R := R) (by rw [gu, List.take_set_of_le (by omega)]; exact FM) (by rw [gu]; exact ((Ar.pre (by omega) kI).set (by omega)).low (by omega)) (by rw [gu]; exact ((hg1.is.low (M := o + 1) (by rw [List.length_set]; omega)).set (by omega)).low (by omega)) (by rw [gu]; exact ((uK.pre (by omega) kI).set (by omega)).low (by omega)) (fun x hx => by obtain ⟨y, _, rfl⟩ := List.mem_map.1 hx; exact .int _ _) (fun x hx => by
  obtain ⟨y, hy, rfl⟩ := List.mem_map.1 hx
  obtain ⟨j, hj, rfl⟩ := List.mem_iff_getElem.1 hy
  exact BuiltR.nr (hcb j _ (List.getElem?_eq_getElem hj))) (fun x hx => by obtain ⟨y, _, rfl⟩ := List.mem_map.1 hx; exact .int _ _)
 refine ⟨O', C', R', Z, cs, ?_, hZ, ⟨hcl, hcb⟩, l3, l1, l2⟩
 have j7 : vw HS 1 R = some (Z.map iD) := sL.vw
 have mK : (Z.map iD).length = rs.length := by rw [List.length_map, ow]
 have oW : (s.cols.map Cl.d).length = s.cols.length := List.length_map _
 have m1 : ¬ (4096 : Int) < (rs.length : Int) := by omega
 have m2 : ¬ 4096 < rs.length := by omega
 have Kl : ((rs.length : Int) != (rs.length : Int)) = false := by simp
 clear bR j8 fU Av Au hA hO hE sL uK Ar hK hg0 hg1 hcb l1 l2 l3 hfits hZ ht1 kI Az FM vf ve Aq hlt k4
 subst aN
 subst aF
 subst ho
 obtain ⟨cols, zV, zU, zT, R7⟩ := s
 simp only [Yi, Yj] at *
 generalize Z.map iD = Zd at *
 rcases hd with ⟨rfl, _⟩ | rfl
 ·simp only [af, Prod.mk.injEq] at j5
  obtain ⟨rfl, rfl⟩ := j5
  rw [Zz (X := X) _ ql _ rfl rfl]; unfold ql
  refine ah (dK @aI @aK @cG @eu @uq @hA0 @oz @bj @pW @k3 @Kl) ?_
  refine aj ?_
  rw [Cb]
  refine ah (jD @aI @aK @cG @qY @hA0 @oz @bj @pW @mK @j7 @k3 @m1 @m2) ?_
  refine aj ?_
  rw [hc0]
  refine ah (cH @Ck @hC @oW) ?_
  refine aj ?_
  rw [hc1]
  refine ah (cP @FL @FE @FJ @Ay) ?_
  rw [← gu]
  simp only [Zn, ZW, lk, Za, List.map_cons, List.map_nil, reduceIte, Option.map_some, Nat.reduceEqDiff]
  rw [Zo, FK]
  exact congrArg some aD
 ·simp only [af, Prod.mk.injEq] at j5
  obtain ⟨rfl, rfl⟩ := j5
  simp only [List.length_append, List.length_cons, List.length_nil, Nat.zero_add, Nat.reduceAdd, List.append_assoc, List.cons_append, List.nil_append, List.length_map] at j7 hc0 hc1 aD
  rw [Zz (X := X) _ ql _ rfl rfl]; unfold ql
  refine ah (dK @aI @aK @cG @eu @uq @hA0 @oz @bj @pW @k3 @Kl) ?_
  refine aj ?_
  rw [Cb]
  refine ah (jD @aI @aK @cG @qY @hA0 @oz @bj @pW @mK @j7 @k3 @m1 @m2) ?_
  refine aj ?_
  rw [hc0]
  refine ah (cH @Ck @hC @oW) ?_
  refine aj ?_
  rw [hc1]
  refine ah (cP @FL @FE @FJ @Ay) ?_
  rw [← gu]
  simp only [Zn, ZW, lk, Za, List.map_cons, List.map_nil, reduceIte, Option.map_some, Nat.reduceEqDiff]
  rw [Zo, FK]
  exact congrArg some aD
theorem Ir (Z : List Nat) : Z.map iD = (Z.map fun z : Nat => (z : Int)).map intD := by rw [List.map_map]; rfl
theorem sx {h : Zb} {L1 L2 : DV} {Z : List Nat} (h1 : vw h 1 L1 = some (Z.map iD)) (h2 : vw h 1 L2 = some (Z.map iD)) (hl : Z.length ≤ 1000) : E X 16 [L1, L2] h = some (.bool true, h) := by
 rw [Ir] at h1 h2
 have e := vl (h := h) (xs := Z.map fun z : Nat => (z : Int)) (ys := Z.map fun z : Nat => (z : Int)) h1 h2 (by rw [List.length_map]; omega)
 rw [decide_eq_true rfl] at e
 exact e
theorem EK {d : DV} {Z : List Nat} {H : Zb} (hd : mh d Z) : ∃ R G, cK H.length 3 1 (H ++ G) R (Z.map iD) ∧ R.one = true ∧ ((d = .nils ∧ R = .nils ∧ G = []) ∨ (d = .fresh 3 1 (Z.map iD) ∧ R = .row H.length 0 0 (Z.map iD).length false ∧ G = [.row 3 1 0 (Z.map iD)])) := by
 rcases hd with ⟨rfl, rfl⟩ | rfl
 ·exact ⟨.nils, [], .inl ⟨rfl, rfl⟩, rfl, .inl ⟨rfl, rfl, rfl⟩⟩
 ·exact ⟨_, _, .inr ⟨0, H.length, rfl, Nat.le_refl _, .inl (by simp)⟩, rfl, .inr ⟨rfl, rfl, rfl⟩⟩
def KS (H : Zb) (d R : DV) (G : Zb) : Prop := (d = .nils ∧ R = .nils ∧ G = []) ∨ ∃ l, d = .fresh 3 1 l ∧ R = .row H.length 0 0 l.length false ∧ G = [.row 3 1 0 l]
theorem Bv {H : Zb} {Cd A : DV} {s : Sch} {ds : List DV} {rs : List (List V)} (hC : ∀ g, vw g 3 Cd = some (s.cols.map Cl.d)) (aI : Cd.one = true) (hl : s.cols.length ≤ 1000) (aK : A.one = true) (hA : ∀ G, vw (H ++ G) 1 A = some ds) (hE : bg H ds rs) (hb : rs.length ≤ 200) :
 ∃ d1 R1 G1 d2 R2 G2, E X 17 [Yi Cd s, A] H = some (d1, H) ∧ KS H d1 R1 G1 ∧ E X 18 [Yi Cd s, A] (H ++ G1) = some (d2, H ++ G1) ∧ KS (H ++ G1) d2 R2 G2 ∧ R1.one = true ∧ R2.one = true ∧ ∀ G, E X 16 [R1, R2] (((H ++ G1) ++ G2) ++ G) = some (.bool true, ((H ++ G1) ++ G2) ++ G) := by
 obtain ⟨d1, Z1, e1, f1, o1⟩ : ∃ d1 Z1, E X 17 [Yi Cd s, A] H = some (d1, H) ∧ mh d1 Z1 ∧ ((cT s rs = false ∧ Z1 = []) ∨ (cT s rs = true ∧ OrdZ s rs Z1)) := by
  rcases Ka (H := H) (Cd := Cd) (s := s) hC aI hl aK hA hE (by omega) with ⟨hf, e⟩ | ⟨hf, d, Z, e, hd, hZ⟩
  ·exact ⟨.nils, [], e, .inl ⟨rfl, rfl⟩, .inl ⟨hf, rfl⟩⟩
  ·exact ⟨d, Z, e, hd, .inr ⟨hf, hZ⟩⟩
 obtain ⟨R1, G1, r1, k1, m1⟩ := EK (H := H) f1
 have KI : ∀ G, vw ((H ++ G1) ++ G) 1 A = some ds := fun G => by rw [List.append_assoc]; exact hA _
 obtain ⟨d2, Z2, e2, f2, o2⟩ : ∃ d2 Z2, E X 18 [Yi Cd s, A] (H ++ G1) = some (d2, H ++ G1) ∧ mh d2 Z2 ∧ ((cT s rs = false ∧ Z2 = []) ∨ (cT s rs = true ∧ OrdZ s rs Z2)) := by
  rcases J9 (H := H ++ G1) (Cd := Cd) (s := s) hC aI hl aK KI (hE.ext _) (by omega) with ⟨hf, e⟩ | ⟨hf, d, Z, e, hd, hZ⟩
  ·exact ⟨.nils, [], e, .inl ⟨rfl, rfl⟩, .inl ⟨hf, rfl⟩⟩
  ·exact ⟨d, Z, e, hd, .inr ⟨hf, hZ⟩⟩
 obtain ⟨R2, G2, r2, k2, m2⟩ := EK (H := H ++ G1) f2
 have hZ : Z1 = Z2 ∧ Z1.length ≤ 1000 := by
  rcases o1 with ⟨h1, rfl⟩ | ⟨h1, h2⟩ <;> rcases o2 with ⟨h3, rfl⟩ | ⟨h3, h4⟩
  ·exact ⟨rfl, by simp⟩
  ·rw [h1] at h3; cases h3
  ·rw [h1] at h3; cases h3
  ·exact ⟨h2.uniq h4, by have := h2.len; omega⟩
 refine ⟨d1, R1, G1, d2, R2, G2, e1, m1.imp id (fun ⟨a, b, c⟩ => ⟨_, a, b, c⟩), e2, m2.imp id (fun ⟨a, b, c⟩ => ⟨_, a, b, c⟩), k1, k2, fun G => ?_⟩
 refine sx (Z := Z1) ?_ ?_ hZ.2
 ·rw [List.append_assoc]; exact iL r1.vw
 ·rw [hZ.1]; exact iL r2.vw
theorem BA {H : Zb} {Cd A O Of Cs : DV} {s : Sch} {p1 p2 p3 p4 : Int} {ds : List DV} {rs : List (List V)} {zs : List Int} (hC : ∀ g, vw g 3 Cd = some (s.cols.map Cl.d)) (aI : Cd.one = true) (hl : s.cols.length ≤ 1000) (aK : A.one = true) (hA : ∀ G, vw (H ++ G) 1 A = some ds) (hE : bg H ds rs) (hb : rs.length ≤ 200) (hO : ∀ G, vw (H ++ G) 1 O = some (zs.map intD)) (dh : zs.length ≤ 1000) :
 ∃ (q1 q2 q3 q4 er : Int) (O1 C1 R1 : DV), E X 13 [Yi Cd s, .agg [.int .i64 p1, .int .i64 p2, .int .i64 p3, .int .i64 p4, Of, Cs], A, O] H = some (.tup [.agg [.int .i64 q1, .int .i64 q2, .int .i64 q3, .int .i64 q4, O1, C1], R1, .int .i64 er], H) ∧ O1.one = true ∧ C1.one = true ∧ R1.one = true ∧
  ∀ G, ∃ O2 C2 R2, E X 14 [Yi Cd s, .agg [.int .i64 p1, .int .i64 p2, .int .i64 p3, .int .i64 p4, Of, Cs], A, O] (H ++ G) = some (.tup [.agg [.int .i64 q1, .int .i64 q2, .int .i64 q3, .int .i64 q4, O2, C2], R2, .int .i64 er], H ++ G) ∧ O2.one = true ∧ C2.one = true ∧ R2.one = true ∧
   (∀ g, E X 15 [.agg [.int .i64 q1, .int .i64 q2, .int .i64 q3, .int .i64 q4, O1, C1], .agg [.int .i64 q1, .int .i64 q2, .int .i64 q3, .int .i64 q4, O2, C2]] g = some (.bool true, g)) ∧ ∀ g, E X 16 [R1, R2] g = some (.bool true, g) := by
 have KI : ∀ G G2, vw ((H ++ G) ++ G2) 1 A = some ds := fun G G2 => by rw [List.append_assoc]; exact hA _
 have SB : ∀ G G2, vw ((H ++ G) ++ G2) 1 O = some (zs.map intD) := fun G G2 => by rw [List.append_assoc]; exact hO _
 by_cases hok : qL s p1 p2 p3 p4 rs zs
 ·obtain ⟨O', C', R', Z, cs, sX, hZ, hB, l1, l2, l3⟩ := Kc (H := H) (Cd := Cd) (A := A) (O := O) (Of := Of) (Cs := Cs) hC aI hl aK hA hE hb hO hok
  rw [zJ] at l2
  refine ⟨p1, p2, p3, p4, 0, O', C', R', sX, l2.one, l3.one, l1.one, fun G => ?_⟩
  obtain ⟨O2, C2, R2, Z2, W4, rf, OY, gH, m1, m2, m3⟩ := Rn (H := H ++ G) (Cd := Cd) (A := A) (O := O) (Of := Of) (Cs := Cs) hC aI hl aK (KI G) (hE.ext _) hb (SB G) hok
  have VG := hZ.uniq OY
  subst VG
  rw [zJ] at m2
  have ow := hZ.len
  have hsl := (mQ (gx hok.2.1).1).2.1
  refine ⟨O2, C2, R2, rf, m2.one, m3.one, m1.one, fun g => ?_, fun g => sx (l1.vw _) (m1.vw _) (by omega)⟩
  exact Kb (H := g) (Ho hB gH (by omega)) (by omega) l3.vw m3.vw (fun _ => l2.vw _) (fun _ => m2.vw _) (by simp [jy]; omega)
 ·refine ⟨0, 0, 0, 0, 1, .nils, .nils, .nils, MP hC aI hl aK hA hE hb hO dh hok, rfl, rfl, rfl, fun G => ⟨.nils, .nils, .nils, MH hC aI hl aK (KI G) (hE.ext _) hb (SB G) dh hok, rfl, rfl, rfl, fun g => ?_, fun g => ?_⟩⟩
  ·exact Kb (H := g) (zs := []) (az := []) (bs := []) (n := 0) ⟨rfl, rfl, fun c h => by simp at h, fun c h => by simp at h, fun k c d h => by simp at h⟩ (by omega) (fun _ => rfl) (fun _ => rfl) (fun _ => rfl) (fun _ => rfl) (by simp)
  ·exact sx (Z := []) rfl rfl (by simp)
set_option maxHeartbeats 2000000 in
theorem run3 {Cd Of Cs L : DV} {s : Sch} {p1 p2 p3 p4 less : Int} {xs : List Rc} (hS : ∀ g, vw g 3 Cd = some (s.cols.map Cl.d)) (aI : Cd.one = true) (WI : Of.one = true) (WJ : Cs.one = true) (hL : RecL L xs) : ∃ h', E X 3 [Yi Cd s, .agg [.int .i64 p1, .int .i64 p2, .int .i64 p3, .int .i64 p4, Of, Cs], L, .int .i64 less] [] = some (.bool true, h') := by
 obtain ⟨HL, KG⟩ : ∃ HL : Zb, HL = [.box 24 [Cd, .int .i64 s.key, .int .i64 s.cmp, .int .i64 s.del, .int .i64 s.sort], .box 28 [.int .i64 p1, .int .i64 p2, .int .i64 p3, .int .i64 p4, Of, Cs]] := ⟨_, rfl⟩
 have e9 := Tn
 have FG := hL.v
 have WW : (xs.map Rc.r).length = xs.length := List.length_map _
 obtain ⟨tq, Gi, h10⟩ := Rq hS HL
 obtain ⟨R8, Gh, h11⟩ := Rp hL HL
 have early : ∀ (hk : tq = false ∨ (tq = true ∧ 0 < R8)), ∃ h', E X 3 [Yi Cd s, .agg [.int .i64 p1, .int .i64 p2, .int .i64 p3, .int .i64 p4, Of, Cs], L, .int .i64 less] [] = some (.bool true, h') := by
  intro hk
  refine ⟨[], ?_⟩
  clear h10 h11 hL
  subst KG
  obtain ⟨cols, k1, k2, k3, k4⟩ := s
  simp only [Yi, Yj] at *
  rcases hk with rfl | ⟨rfl, hk⟩
  ·rw [Zz (X := X) _ b3 _ rfl rfl]; unfold b3; exact dO (cH @e9 @Gi @Gh)
  ·rw [Zz (X := X) _ b3 _ rfl rfl]; unfold b3; exact dO (cP @e9 @Gi @Gh @hk)
 cases tq
 ·exact early (.inl rfl)
 by_cases hk : 0 < R8
 ·exact early (.inr ⟨rfl, hk⟩)
 clear early
 have hsl := h10 rfl
 obtain ⟨hn, Fs⟩ := h11 hk
 obtain ⟨rs, hrs⟩ : ∃ rs, rs = xs.map Rc.vs := ⟨_, rfl⟩
 obtain ⟨zs, hzs⟩ : ∃ zs, zs = xs.map Rc.off := ⟨_, rfl⟩
 obtain ⟨ds, hds⟩ : ∃ ds, ds = xs.map Rc.d := ⟨_, rfl⟩
 have lV : rs.length = xs.length := by rw [hrs]; simp
 have dh : zs.length = xs.length := by rw [hzs]; simp
 obtain ⟨A, O, PF, lA, lO⟩ := Ro hL (by omega) HL
 rw [show (xs.map fun x => intD x.off) = zs.map intD by rw [hzs]; simp] at lO
 rw [← hds] at lA
 have hE : ∀ H, bg H ds rs := fun H => by rw [hds, hrs]; exact HN hL.row H
 have hw : ∀ r ∈ rs, r.length ≤ 1000000 := fun r hr => by
  rw [hrs] at hr
  obtain ⟨x, hx, rfl⟩ := List.mem_map.1 hr
  have := Fs x hx
  unfold iu at this
  simp only [Bool.and_eq_true, decide_eq_true_eq] at this
  have := this.1
  omega
 have aK := lA.one
 have FF := lO.one
 have qW := lA.vw
 have lY := lO.vw
 have Aa : ∀ H (uX : List Int) (O2 : DV), dN 1 O2 (uX.map intD) → uX.length ≤ xs.length → _ := fun H uX O2 l2 WE => BA (H := H) (Cd := Cd) (A := A) (O := O2) (Of := Of) (Cs := Cs) (p1 := p1) (p2 := p2) (p3 := p3) (p4 := p4) (zs := uX) hS aI (by omega) aK (fun G => qW _) (hE H) (by omega) (fun G => l2.vw _) (by omega)
 have Ow := fun H : Zb => Bv (H := H) (Cd := Cd) (A := A) hS aI (by omega) aK (fun G => qW _) (hE H) (by omega)
 have hzd : (zs.map intD).length = xs.length := by rw [List.length_map]; exact dh
 have cG := dD aK
 unfold DV.cells at cG
 obtain ⟨HX, VS⟩ : ∃ HX : Zb, HX = HL := ⟨_, rfl⟩
 have aD : ∀ h' : Zb, fin [] h' [.bool true] = (.bool true, []) := fun h' => by simp [fin, aJ, aO]
 have WA : ∀ h' : Zb, fin [] h' [.bool true] = (.bool true, []) := aD
 have tail : ∀ (uX : List Int) (O2 : DV), dN 1 O2 (uX.map intD) → uX.length ≤ xs.length → ∃ (q1 q2 q3 q4 er : Int) (O1 C1 R1 O3 C3 R3 d1 S1 d2 S2 : DV) (G1 G2 : Zb), O1.one = true ∧ C1.one = true ∧ R1.one = true ∧ O3.one = true ∧ C3.one = true ∧ R3.one = true ∧ S1.one = true ∧ S2.one = true ∧
  E X 13 [Yi Cd s, .agg [.int .i64 p1, .int .i64 p2, .int .i64 p3, .int .i64 p4, Of, Cs], A, O2] HL = some (.tup [.agg [.int .i64 q1, .int .i64 q2, .int .i64 q3, .int .i64 q4, O1, C1], R1, .int .i64 er], HL) ∧
  E X 14 [Yi Cd s, .agg [.int .i64 p1, .int .i64 p2, .int .i64 p3, .int .i64 p4, Of, Cs], A, O2] (HL ++ [HO.box 28 (aS q1 q2 q3 q4 O1 C1)]) = some (.tup [.agg [.int .i64 q1, .int .i64 q2, .int .i64 q3, .int .i64 q4, O3, C3], R3, .int .i64 er], HL ++ [HO.box 28 (aS q1 q2 q3 q4 O1 C1)]) ∧
  (∀ g, E X 15 [.agg [.int .i64 q1, .int .i64 q2, .int .i64 q3, .int .i64 q4, O1, C1], .agg [.int .i64 q1, .int .i64 q2, .int .i64 q3, .int .i64 q4, O3, C3]] g = some (.bool true, g)) ∧ (∀ g, E X 16 [R1, R3] g = some (.bool true, g)) ∧
  E X 17 [Yi Cd s, A] (HL ++ [HO.box 28 (aS q1 q2 q3 q4 O1 C1), HO.box 28 (aS q1 q2 q3 q4 O3 C3)]) = some (d1, HL ++ [HO.box 28 (aS q1 q2 q3 q4 O1 C1), HO.box 28 (aS q1 q2 q3 q4 O3 C3)]) ∧
  KS (HL ++ [HO.box 28 (aS q1 q2 q3 q4 O1 C1), HO.box 28 (aS q1 q2 q3 q4 O3 C3)]) d1 S1 G1 ∧
  E X 18 [Yi Cd s, A] ((HL ++ [HO.box 28 (aS q1 q2 q3 q4 O1 C1), HO.box 28 (aS q1 q2 q3 q4 O3 C3)]) ++ G1) = some (d2, (HL ++ [HO.box 28 (aS q1 q2 q3 q4 O1 C1), HO.box 28 (aS q1 q2 q3 q4 O3 C3)]) ++ G1) ∧
  KS ((HL ++ [HO.box 28 (aS q1 q2 q3 q4 O1 C1), HO.box 28 (aS q1 q2 q3 q4 O3 C3)]) ++ G1) d2 S2 G2 ∧
  E X 16 [S1, S2] (((HL ++ [HO.box 28 (aS q1 q2 q3 q4 O1 C1), HO.box 28 (aS q1 q2 q3 q4 O3 C3)]) ++ G1) ++ G2) = some (.bool true, ((HL ++ [HO.box 28 (aS q1 q2 q3 q4 O1 C1), HO.box 28 (aS q1 q2 q3 q4 O3 C3)]) ++ G1) ++ G2) := by
  intro uX O2 l2 hz2
  obtain ⟨q1, q2, q3, q4, er, O1, C1, R1, sX, a1, a2, a3, hg⟩ := Aa HL uX O2 l2 hz2
  obtain ⟨O3, C3, R3, rf, a4, a5, a6, Cy, qh⟩ := hg [HO.box 28 (aS q1 q2 q3 q4 O1 C1)]
  obtain ⟨d1, S1, G1, d2, S2, G2, qZ, m1, qY, m2, a7, a8, wB⟩ := Ow (HL ++ [HO.box 28 (aS q1 q2 q3 q4 O1 C1), HO.box 28 (aS q1 q2 q3 q4 O3 C3)])
  have Py := wB []
  rw [List.append_nil] at Py
  exact ⟨q1, q2, q3, q4, er, O1, C1, R1, O3, C3, R3, d1, S1, d2, S2, G1, G2, a1, a2, a3, a4, a5, a6, a7, a8, sX, rf, Cy, qh, qZ, m1, qY, m2, Py⟩
 have FD : O = .nils ∧ zs = [] ∨ O = .list 1 (zs.map intD) false := by
  rcases lO with ⟨h1, h2⟩ | h1
  ·exact .inl ⟨h1, List.map_eq_nil_iff.1 h2⟩
  ·exact .inr h1
 refine ⟨[], ?_⟩
 clear h10 h11 hL Fs hE hw lA Aa Ow VS
 by_cases cl : less = 1 ∧ 0 < xs.length
 ·obtain ⟨rfl, hpos⟩ := cl
  have vN : (0 : Int) < (xs.length : Int) := by omega
  have hone : 1 ≤ xs.length := by omega
  rcases FD with ⟨_, h⟩ | FD
  ·rw [h] at dh; simp at dh; omega
  obtain ⟨O2, sM⟩ : ∃ O2, O2 = DV.list 1 ((zs.drop 1).map intD) false := ⟨_, rfl⟩
  have TL : ∀ h, fF h O 1 xs.length xs.length false = some (O2, h) := fun h => by
   rw [FD, sM]
   simp only [fF]
   rw [List.take_of_length_le (by omega), List.map_drop]
   simp
  obtain ⟨q1, q2, q3, q4, er, O1, C1, R1, O3, C3, R3, d1, S1, d2, S2, G1, G2, a1, a2, a3, a4, a5, a6, a7, a8, sX, rf, Cy, qh, qZ, m1, qY, m2, wB⟩ := tail (zs.drop 1) O2 (.inr sM) (by rw [List.length_drop]; omega)
  have Uc : O2.one = true := by rw [sM]; rfl
  clear tail lO FD sM
  have x9 := fun (G : Zb) (d : DV) => Zp (HL ++ [HO.box 28 (aS q1 q2 q3 q4 O1 C1), HO.box 28 (aS q1 q2 q3 q4 O3 C3)]) G d
  subst KG
  obtain ⟨cols, k1, k2, k3, k4⟩ := s
  simp only [Yi, Yj, aS] at *
  generalize zs.map intD = zd at *
  skip
  rcases m1 with ⟨rfl, rfl, rfl⟩ | ⟨l1, rfl, rfl, rfl⟩ <;> rcases m2 with ⟨rfl, rfl, rfl⟩ | ⟨l2, rfl, rfl, rfl⟩
  all_goals
   simp only [List.cons_append, List.nil_append, List.append_assoc, List.append_nil, List.length_cons, List.length_nil, List.length_append, Nat.zero_add, Nat.reduceAdd] at rf qZ qY wB x9
   rw [Zz (X := X) _ b3 _ rfl rfl]; unfold b3
   refine HJ (Uf @e9 @Gi @Gh @hk @PF @sX @rf @Cy @qh @qZ @qY @wB @x9 @Zh @qW @lY @hzd @hpos @vN @hone @TL @aK @FF @Uc @cG @a1 @a2 @a3 @a4 @a5 @a6 @a7 @a8) ?_
   simp only [Zn, ZW, lk, Za, List.map_cons, List.map_nil, reduceIte, Option.map_some, Nat.reduceEqDiff, aD]
 ·obtain ⟨q1, q2, q3, q4, er, O1, C1, R1, O3, C3, R3, d1, S1, d2, S2, G1, G2, a1, a2, a3, a4, a5, a6, a7, a8, sX, rf, Cy, qh, qZ, m1, qY, m2, wB⟩ := tail zs O lO (by omega)
  clear tail lO FD
  by_cases c1 : less = 1
  ·have hpos : ¬ 0 < xs.length := fun h => cl ⟨c1, h⟩
   have vN : ¬ (0 : Int) < (xs.length : Int) := by omega
   subst c1
   clear cl
   have x9 := fun (G : Zb) (d : DV) => Zp (HL ++ [HO.box 28 (aS q1 q2 q3 q4 O1 C1), HO.box 28 (aS q1 q2 q3 q4 O3 C3)]) G d
   subst KG
   obtain ⟨cols, k1, k2, k3, k4⟩ := s
   simp only [Yi, Yj, aS] at *
   generalize zs.map intD = zd at *
   skip
   rcases m1 with ⟨rfl, rfl, rfl⟩ | ⟨l1, rfl, rfl, rfl⟩ <;> rcases m2 with ⟨rfl, rfl, rfl⟩ | ⟨l2, rfl, rfl, rfl⟩
   all_goals
    simp only [List.cons_append, List.nil_append, List.append_assoc, List.append_nil, List.length_cons, List.length_nil, List.length_append, Nat.zero_add, Nat.reduceAdd] at rf qZ qY wB x9
    rw [Zz (X := X) _ b3 _ rfl rfl]; unfold b3
    refine HJ (Pn @e9 @Gi @Gh @hk @PF @sX @rf @Cy @qh @qZ @qY @wB @x9 @Zh @qW @lY @hzd @hpos @vN @aK @FF @cG @a1 @a2 @a3 @a4 @a5 @a6 @a7 @a8) ?_
    simp only [Zn, ZW, lk, Za, List.map_cons, List.map_nil, reduceIte, Option.map_some, Nat.reduceEqDiff, aD]
  ·have ew : (less == 1) = false := by simp [c1]
   clear cl
   have x9 := fun (G : Zb) (d : DV) => Zp (HL ++ [HO.box 28 (aS q1 q2 q3 q4 O1 C1), HO.box 28 (aS q1 q2 q3 q4 O3 C3)]) G d
   subst KG
   obtain ⟨cols, k1, k2, k3, k4⟩ := s
   simp only [Yi, Yj, aS] at *
   generalize zs.map intD = zd at *
   skip
   rcases m1 with ⟨rfl, rfl, rfl⟩ | ⟨l1, rfl, rfl, rfl⟩ <;> rcases m2 with ⟨rfl, rfl, rfl⟩ | ⟨l2, rfl, rfl, rfl⟩
   all_goals
    simp only [List.cons_append, List.nil_append, List.append_assoc, List.append_nil, List.length_cons, List.length_nil, List.length_append, Nat.zero_add, Nat.reduceAdd] at rf qZ qY wB x9
    rw [Zz (X := X) _ b3 _ rfl rfl]; unfold b3
    refine HJ (Pn @e9 @Gi @Gh @hk @PF @sX @rf @Cy @qh @qZ @qY @wB @x9 @Zh @qW @lY @hzd @c1 @ew @aK @FF @cG @a1 @a2 @a3 @a4 @a5 @a6 @a7 @a8) ?_
    simp only [Zn, ZW, lk, Za, List.map_cons, List.map_nil, reduceIte, Option.map_some, Nat.reduceEqDiff, aD]
end Go.Proofs.YtmbgfbomgbdjeaaGreatDoor
