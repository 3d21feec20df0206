/- Ideal runs. -/
import Derived.Test.YtmbgfbomgbdjeaaGreatDoorStep
import Derived.Test.YtmbgfbomgbdjeaaGreatDoorStbA
import Derived.Test.YtmbgfbomgbdjeaaGreatDoorSealA
import Derived.Test.YtmbgfbomgbdjeaaGreatDoorColL
import Derived.Test.YtmbgfbomgbdjeaaGreatDoorPlainB
import Derived.Test.YtmbgfbomgbdjeaaGreatDoorNod
import Derived.Test.YtmbgfbomgbdjeaaGreatDoorColT
import Derived.Test.YtmbgfbomgbdjeaaGreatDoorQryR
import Derived.Test.YtmbgfbomgbdjeaaGreatDoorColX
namespace Go.Proofs.YtmbgfbomgbdjeaaGreatDoor
attribute [local go_sem] ZK ZF ZE ZG Zs Zi Zp Zl Zn Ze Zf Zm Zt Zu ZH Zr Zj ZD Zz Zy ZW ZA Yo put lk Od.v Za Zg Zo aj Yd Ye Yc au eqk DV.isU DV.cells ae ZP Ya ZO Zq splice ZQ af ZX eqs bh bV bQ aV bS bg aU aZ bR aW bU aY bf aX bW bY bP YA YB
attribute [local go_sem ↓] Zk
set_option linter.unusedVariables false
set_option linter.unusedSimpArgs false
set_option maxRecDepth 10000
theorem uy (a b : Int) : 0 < eC a b ↔ b < a := by
 unfold eC
 split
 ·simp; omega
 ·split <;> simp_all
theorem Aq : ∀ (x y : List UInt8), 0 < cmpL x y ↔ cmpL y x < 0
 | [], [] => by simp [cmpL, Op.bytesLess]
 | [], _ :: _ => by simp [cmpL, Op.bytesLess]
 | _ :: _, [] => by simp [cmpL, Op.bytesLess]
 | a :: x, b :: y => by
  by_cases h1 : a < b
  ·rw [xf _ _ h1, xg _ _ h1]; simp
  by_cases h2 : b < a
  ·rw [xg _ _ h2, xf _ _ h2]; simp
  have : a = b := by
   rw [UInt8.lt_iff_toNat_lt] at *
   exact UInt8.toNat_inj.1 (by omega)
  subst this
  rw [cmpL_eq, cmpL_eq]
  exact Aq x y
theorem qB (a b : V) : ord b a < 0 ↔ 0 < ord a b := by
 obtain ⟨k, n, s, t⟩ := a
 obtain ⟨k', n', s', t'⟩ := b
 unfold ord
 simp only
 by_cases h1 : k = k'
 ·subst h1
  simp only [ne_eq, not_true_eq_false, ↓reduceIte]
  by_cases h2 : k = 1
  ·simp only [h2, ↓reduceIte]; rw [k9, uy]
  simp only [h2, ↓reduceIte]
  by_cases h3 : k = 2
  ·simp only [h3, ↓reduceIte]; rw [Ap, Ap]
   exact (Aq _ _).symm
  simp only [h3, ↓reduceIte]
  by_cases h4 : k = 3
  ·simp only [h4, ↓reduceIte]; rw [k9, uy]
  simp [h4]
 ·rw [if_pos (fun h => h1 h.symm), if_pos h1, k9, uy]
theorem zy (a b c : V) (h1 : ord a b ≤ 0) (h2 : ord b c ≤ 0) : ord a c ≤ 0 := by
 by_cases h : ord a c ≤ 0
 ·exact h
 have h3 := (qB a c).2 (by omega)
 have e1 := qB a b
 have e2 := qB b c
 rcases El c b a h3 with h4 | h4 <;> omega
def dQ (s : Sch) (rs : List (List V)) (i k : Nat) : Int := fG s (rs.getD i []) (rs.getD k [])
theorem lA (s : Sch) (rs : List (List V)) (x y : Nat) : dQ s rs y x < 0 ↔ 0 < dQ s rs x y := by
 unfold dQ fG
 split
 ·simp
 ·exact qB _ _
theorem qy (s : Sch) (rs : List (List V)) (x y z : Nat) (h1 : dQ s rs x y ≤ 0) (h2 : dQ s rs y z ≤ 0) : dQ s rs x z ≤ 0 := by
 unfold dQ fG at *
 split
 ·simp
 ·rename_i c
  rw [if_neg c] at h1 h2
  exact zy _ _ _ h1 h2
theorem j6 {s : Sch} {rs : List (List V)} (h : ey s rs = true) : cm s = true ∧ ∀ r ∈ rs, dX s r = true := by
 unfold ey at h
 simp only [Bool.and_eq_true, Bool.not_eq_true', List.any_eq_false] at h
 exact ⟨h.1, fun r hr => by have := h.2 r hr; simpa using this⟩
theorem o9 {s : Sch} {r : List V} (h : dX s r = true) : r.length = s.cols.length := by
 unfold dX at h
 simp only [Bool.and_eq_true, decide_eq_true_eq] at h
 exact h.2.1
theorem uO {s : Sch} (h : cm s = true) : s.sort < s.cols.length ∧ s.cols.length ≤ 8 ∧ 1 ≤ s.cols.length ∧ -1 ≤ s.sort := by
 unfold cm at h
 simp only [Bool.and_eq_true, decide_eq_true_eq] at h
 exact ⟨h.2.2.2.2.2, h.2.2.1, h.2.1, h.2.2.2.2.1⟩
theorem yg {s : Sch} {rs : List (List V)} (h : ey s rs = true) : ∀ r ∈ rs, s.sort < r.length := fun r hr => by
 obtain ⟨h1, h2⟩ := j6 h
 rw [o9 (h2 r hr)]
 exact (uO h1).1
def AU (d : DV) (l : List Nat) : Prop := (d = .nils ∧ l = []) ∨ d = .fresh 3 1 (l.map iD)
structure OrdZ (s : Sch) (rs : List (List V)) (Z : List Nat) : Prop where
 perm : Z.Perm (List.range rs.length)
 lx : Z.Pairwise (Lx (dQ s rs))
theorem Nv {Hb : Zb} {b n : Nat} (hn : n ≤ 1000000) :
 ∀ (k i : Nat) (h : Zb) (d : DV), n - i ≤ k → i ≤ n → aN 3 1 Hb h d ((List.range i).map iD) → ∃ ex h' d', C X (.loop rZ) [(5, .ref b 0), (6, d), (15, .int .i64 n), (16, .int .i64 i)] h = some (.exit 0, (5, .ref b 0) :: (6, d') :: ex, h') ∧ aN 3 1 Hb h' d' ((List.range n).map iD) := by
 intro k
 induction k with
 | zero =>
  intro i h d hk hi hg
  obtain rfl : i = n := by omega
  refine ⟨[(15, .int .i64 i), (16, .int .i64 i), (17, .bool false)], h, d, ?_, hg⟩
  rw [Zc]
  unfold rZ
  refine rn trivial ?_
  rw [Zx]
  simp [Za, lk]
 | succ k ih =>
  intro i h d hk hi hg
  by_cases c : i < n
  case neg => exact ih i h d (by omega) hi hg
  have c' : (i : Int) < (n : Int) := by omega
  obtain ⟨I, cZ⟩ : ∃ I, I = i + 1 := ⟨_, rfl⟩
  have z1 : IntKind.i64.wrap ((i : Int) + 1) = (I : Int) := wr
  obtain ⟨d2, h2, ha, hg2⟩ := hg.app 8 [.int .i64 (i : Nat)] (by simp; omega)
  have hw := hg.vw
  rw [show (List.range i).map iD ++ [DV.int .i64 (i : Nat)] = (List.range I).map iD by rw [cZ, List.range_succ, List.map_append]; rfl] at hg2
  have y1 : ∀ h, bw [.int .i64 (i : Nat)] h = some ([.int .i64 (i : Nat)], h) := fun _ => rfl
  have y2 : Wc 1 (.int .i64 (i : Nat)) := by simp [Wc, DV.cells, DV.one]
  have y3 : Nr (.int .i64 (i : Nat)) := .int _ _
  have y4 : ∀ h, aK h 1 (.list 1 [.int .i64 (i : Nat)] true) = some [.int .i64 (i : Nat)] := fun _ => rfl
  have hs : C X rZ [(5, .ref b 0), (6, d), (15, .int .i64 n), (16, .int .i64 i)] h = some (.norm, [(5, .ref b 0), (6, d2), (15, .int .i64 n), (16, .int .i64 I)], h2) := by
   clear hg hg2 ih
   unfold rZ
   refine rn (gJ @c @c' @z1 @y1 @y2 @y3 @y4 @hw @ha) ?_
   simp [Za, lk]
  rw [Zc, hs, ZB]
  exact ih I h2 d2 (by omega) (by omega) hg2
theorem QU {H : Zb} {Cd A : DV} {s : Sch} {ds : List DV} {rs : List (List V)} (hC : ∀ g, vw g 3 Cd = some (s.cols.map Cl.d)) (aR : Cd.one = true) (hl : s.cols.length ≤ 1000) (dV : A.one = true) (hA : ∀ G, vw (H ++ G) 1 A = some ds) (hE : cF H ds rs) (hb : rs.length ≤ 1000) :
 (ey s rs = false ∧ E X 17 [Yl Cd s, A] H = some (.nils, H)) ∨ (ey s rs = true ∧ ∃ d Z, E X 17 [Yl Cd s, A] H = some (d, H) ∧ AU d Z ∧ OrdZ s rs Z) := by
 obtain ⟨HB, dc⟩ : ∃ HB, HB = H ++ [HO.box 24 [Cd, .int .i64 s.key, .int .i64 s.cmp, .int .i64 s.del, .int .i64 s.sort], .box 66 [Cd, .int .i64 s.key, .int .i64 s.cmp, .int .i64 s.del, .int .i64 s.sort, A]] := ⟨_, rfl⟩
 have fC : ∀ G, vw (HB ++ G) 1 A = some ds := fun G => by rw [dc, List.append_assoc]; exact hA _
 have zV : cF HB ds rs := by rw [dc]; exact hE.ext _
 have qn := Co (H := HB) (A := A) hC hl fC zV hb
 have g5 : HB[H.length + 1]? = some (.box 66 [Cd, .int .i64 s.key, .int .i64 s.cmp, .int .i64 s.del, .int .i64 s.sort, A]) := by rw [dc]; simp
 have jv : A.isU = false := by cases A <;> first | rfl | simp [DV.one] at dV
 have jw := gi dV
 unfold DV.cells at jw
 unfold DV.isU at jv
 cases hf : ey s rs
 ·left
  refine ⟨rfl, ?_⟩
  rw [hf] at qn
  clear fC zV hA hE
  subst dc
  obtain ⟨cols, k1, k2, k3, k4⟩ := s
  simp only [Yl, Yi] at *
  rw [Zv (X := X) _ Gm _ rfl rfl]; unfold Gm
  refine Yx (eP @aR @dV @jv @jw @qn) ?_
  exact re @dV
 ·right
  refine ⟨rfl, ?_⟩
  rw [hf] at qn
  have BL : vw HB 1 A = some ds := by have := fC []; rwa [List.append_nil] at this
  have bq : ds.length = rs.length := hE.1
  obtain ⟨ex, h3, d3, hc, hg⟩ := Nv (Hb := HB) (b := H.length + 1) (n := rs.length) (by omega) rs.length 0 HB .nils (by omega) (by omega) aN.zero
  rw [show ((0 : Nat) : Int) = 0 from rfl] at hc
  have Ot := fe hg.1 g5
  have key : ∃ Z h4 d, E X 40 [d3, .func 41 [.agg [Cd, .int .i64 s.key, .int .i64 s.cmp, .int .i64 s.del, .int .i64 s.sort, A]] []] h3 = some (.tup [], h4) ∧ fin H h4 [d3] = (d, H) ∧ AU d Z ∧ OrdZ s rs Z := by
   have hpre : HB.take H.length = H := by rw [dc]; exact List.take_left
   have hsort := yg hf
   rcases hg.2 with ⟨rfl, hx⟩ | ⟨g, o, rfl, ho, Sw⟩
   ·have h0 : rs.length = 0 := by simpa using congrArg List.length hx
    have hnil := List.eq_nil_of_length_eq_zero h0
    refine ⟨[], h3, .nils, Mc _ _, ?_, .inl ⟨rfl, rfl⟩, ⟨by rw [h0]; exact List.Perm.refl _, .nil⟩⟩
    rcases (hg.base hpre).fin (by rw [hx]; simp) with ⟨_, h⟩ | ⟨h, _⟩
    ·exact h
    ·exact absurd rfl h
   ·have sj : ((List.range rs.length).map iD).length = rs.length := by simp
    rw [sj]
    have hr := (List.getElem?_eq_some_iff.1 Sw).1
    have hself : hI h3 o g (List.range rs.length) = h3 := by
     unfold hI
     apply List.ext_getElem?
     intro i
     by_cases e : o = i
     ·subst e; rw [List.getElem?_set_self hr, Sw]
     ·rw [List.getElem?_set_ne e]
    have JY : ∀ l, (hI h3 o g l).take HB.length = HB := fun l => by unfold hI; rw [List.take_set_of_le ho]; exact hg.1
    have T3 : CmpI h3 o g rs.length 41 (.agg [Cd, .int .i64 s.key, .int .i64 s.cmp, .int .i64 s.del, .int .i64 s.sort, A]) (dQ s rs) := by
     refine ⟨fun l i k hi hk => ?_, lA s rs, qy s rs⟩
     obtain ⟨G, hG⟩ := take_split (JY l)
     have FO := JG (H := hI h3 o g l) (Cd := Cd) (s := s) (A := A) (ds := ds) (rs := rs) (i := i) (k := k) (fun G2 => by rw [hG, List.append_assoc]; exact fC _) (by rw [hG]; exact zV.ext _) (List.getElem?_eq_getElem hi) (List.getElem?_eq_getElem hk) (hsort _ (List.getElem_mem _)) (hsort _ (List.getElem_mem _))
     rw [FO]
     simp [dQ, List.getD_eq_getElem?_getD, hi, hk]
    obtain ⟨Z, e, z1, z2⟩ := QJ T3 hr (by omega) (l := List.range rs.length) (by simp) (fun y hy => List.mem_range.1 hy) List.pairwise_lt_range
    rw [hself] at e
    have xY : Z.length = rs.length := by rw [z1.length_eq]; simp
    have Ve : aN 3 1 HB (hI h3 o g Z) (.row o g 0 rs.length false) (Z.map iD) := ⟨JY Z, .inr ⟨g, o, by rw [List.length_map, xY], ho, by unfold hI; rw [List.getElem?_set_self hr]⟩⟩
    have hnr : ∀ x ∈ Z.map iD, Nr x := fun x hx => by
     obtain ⟨y, _, rfl⟩ := List.mem_map.1 hx
     exact .int _ _
    rcases (Ve.base hpre).fin hnr with ⟨h, _⟩ | ⟨_, aA⟩
    ·cases h
    ·exact ⟨Z, _, _, e, aA, .inr rfl, ⟨z1, z2⟩⟩
  obtain ⟨Z, h4, d, yt, aA, Vq, Vp⟩ := key
  refine ⟨d, Z, ?_, Vq, Vp⟩
  clear fC zV hA hE hg
  subst dc
  obtain ⟨cols, k1, k2, k3, k4⟩ := s
  simp only [Yl, Yi] at *
  rw [Zv (X := X) _ Gm _ rfl rfl]; unfold Gm
  refine Yx (fR @aR @dV @jv @jw @qn @BL @bq) ?_
  refine Yy ?_
  rw [hc]
  refine Yx (aD @Ot @yt) ?_
  simp only [Zh, ZV, lk, Za, List.map_cons, List.map_nil, reduceIte, Option.map_some, Nat.reduceEqDiff, aA]
set_option linter.unusedSectionVars false
structure BuiltC (ls : List V) (c : RC) : Prop where
 n : c.n = (ls.length : Int)
 bs : c.bs = pack (ls.map (place c.ys)) (wC c.ys.length)
 up : Up c.ys
 mem : ∀ x, x ∈ c.ys ↔ x ∈ ls
 yl : c.ys.length ≤ ls.length
 may : ∀ x ∈ ls, aF x = true
 dict : e8 c.D c.ys
 B : c.B = .list 1 (c.bs.map bD) false
theorem Ay {s : ByteArray} (h : (s == ⟨#[]⟩) = true) : s = ⟨#[]⟩ := by
 have h' : (s.data == #[]) = true := h
 cases s
 simp at h' ⊢
 exact h'
theorem DF : ∀ (l : List V) (p : V), Up (p :: l) → (∀ x ∈ l, aF x = true) → bG (some p) l = true
 | [], p, _, _ => rfl
 | a :: l, p, h, hm => by
  have h1 := List.pairwise_cons.1 h
  simp only [bG, Bool.and_eq_true, decide_eq_true_eq]
  exact ⟨hm a (by simp), h1.1 a (by simp), DF l a h1.2 (fun x hx => hm x (by simp [hx]))⟩
theorem Qe {l : List V} (h : Up l) (hm : ∀ x ∈ l, aF x = true) : bG none l = true := by
 cases l with
 | nil => rfl
 | cons a l =>
  simp only [bG, Bool.and_eq_true]
  exact ⟨hm a (by simp), DF l a h (fun x hx => hm x (by simp [hx]))⟩
theorem zF {v : V} (h : aF v = true) : Sm v := by
 unfold aF at h
 unfold Sm
 by_cases h1 : v.k = 1
 ·simp [h1] at h
  rw [Ay h.1]; decide
 by_cases h2 : v.k = 2
 ·simp [h1, h2] at h
  omega
 by_cases h3 : v.k = 3
 ·simp [h1, h2, h3] at h
  rw [Ay h.2]; decide
 by_cases h4 : v.k = 0
 ·simp [h1, h2, h3, h4] at h
  rw [Ay h.1.2]; decide
 ·simp [h1, h2, h3, h4] at h
theorem Qd {n : Nat} (h : n ≤ 200) : wC n ≤ 8 := by
 have h1 := gZ (n - 1) 255 (by omega)
 have h2 : wN 255 = 8 := by decide
 unfold wC; omega
section
variable {ls : List V} {c : RC} (h : BuiltC ls c) (hl : ls.length ≤ 200)
include h hl
theorem BuiltC.il_w : ∀ p ∈ ls.map (place c.ys), wN p ≤ wC c.ys.length ∧ p < c.ys.length := fun p hp => by
 obtain ⟨x, hx, rfl⟩ := List.mem_map.1 hp
 have hq := (List.getElem?_eq_some_iff.1 (lh h.up ((h.mem x).2 hx)).1).1
 exact ⟨gZ _ _ (by omega), hq⟩
theorem BuiltC.ids : bL c.bs (wC c.ys.length) c.n.toNat = ls.map (place c.ys) := by
 rw [h.bs, h.n, Int.toNat_natCast]
 unfold bL
 apply List.ext_getElem
 ·simp
 ·intro i h1 h2
  simp only [List.getElem_map, List.getElem_range]
  have hi : i < (ls.map (place c.ys)).length := h2
  have := rM (ls.map (place c.ys)) (wC c.ys.length) i hi (h.il_w hl _ (List.getElem_mem hi)).1
  rw [this]
  simp
theorem BuiltC.pad : iw c.bs (wC c.ys.length) c.n.toNat := by
 rw [h.bs, h.n, Int.toNat_natCast]
 refine ⟨by rw [gM, List.length_map], fun h0 => ?_⟩
 have := xD (ls.map (place c.ys)) (wC c.ys.length) (by rw [List.length_map]; exact h0)
 rw [List.length_map] at this
 rw [gM, List.length_map]
 exact Nat.div_eq_of_lt this
theorem BuiltC.ok : c.Ok := by
 have hw := Qd (n := c.ys.length) (by have := h.yl; omega)
 refine ⟨h.dict, by have := h.yl; omega, fun x hx => zF (h.may x ((h.mem x).1 hx)), .inr h.B, by rw [h.bs]; exact pJ _ _, ?_⟩
 rw [h.bs, gM, List.length_map]
 have : ls.length * wC c.ys.length ≤ 200 * 8 := Nat.mul_le_mul hl hw
 omega
theorem BuiltC.okC : okC c.n c.ys c.bs := by
 have hn := h.n
 refine ⟨by omega, by omega, Qe h.up (fun x hx => h.may x ((h.mem x).1 hx)), h.pad hl, fun p hp => ?_, fun k hk => ?_⟩
 ·rw [h.ids hl] at hp
  exact (h.il_w hl p hp).2
 ·rw [h.ids hl]
  have hx := List.getElem_mem hk
  refine List.mem_map.2 ⟨c.ys[k], (h.mem _).1 hx, ?_⟩
  exact Gz h.up (List.getElem?_eq_getElem hk)
theorem BuiltC.val {i : Nat} {v : V} (hv : ls[i]? = some v) : c.sc.val i = v := by
 have e : c.sc.il = ls.map (place c.ys) := h.ids hl
 unfold SC.val
 rw [e]
 have e2 : c.sc.ys = c.ys := rfl
 rw [e2]
 have h1 : (ls.map (place c.ys)).getD i 0 = place c.ys v := by simp [List.getD_eq_getElem?_getD, hv]
 rw [h1, List.getD_eq_getElem?_getD, (lh h.up ((h.mem v).2 (List.mem_of_getElem? hv))).1]
 rfl
end
theorem BuiltC.same {ls : List V} {c d : RC} (h : BuiltC ls c) (h' : BuiltC ls d) : c.n = d.n ∧ c.ys = d.ys ∧ c.bs = d.bs := by
 have e : c.ys = d.ys := DC _ _ h.up h'.up (fun v => by rw [h.mem, h'.mem])
 refine ⟨by rw [h.n, h'.n], e, by rw [h.bs, h'.bs, e]⟩
def Du (s : Sch) (p1 p2 p3 p4 : Int) (rs : List (List V)) (zs : List Int) : Prop := bj p1 p2 p3 p4 = true ∧ ey s rs = true ∧ zs.length = rs.length ∧ nj p3 p4 zs
def Ky (d : DV) (cs : List RC) : Prop := (d = .nils ∧ cs = []) ∨ d = .list 3 (cs.map RC.d) false
theorem Ky.vw {d : DV} {cs : List RC} (h : Ky d cs) (g : Zb) : vw g 3 d = some (cs.map RC.d) := by
 rcases h with ⟨rfl, rfl⟩ | rfl <;> rfl
def dU (rs : List (List V)) (Z : List Nat) (k : Nat) : List V := Z.map fun i => (rs.getD i []).getD k v0
structure BldC (s : Sch) (rs : List (List V)) (Z : List Nat) (cs : List RC) : Prop where
 len : cs.length = s.cols.length
 col : ∀ k c, cs[k]? = some c → BuiltC (dU rs Z k) c
def dI (N T sz : Nat) (h : Zb) (d : DV) (xs : List DV) : Prop := (d = .nils ∧ xs = []) ∨ ∃ g o, d = .row o g 0 xs.length false ∧ N ≤ o ∧ (h[o]? = some (.row T sz g xs) ∨ h[o]? = some (.frz T sz g xs))
def iW (sz : Nat) (d : DV) (xs : List DV) : Prop := (d = .nils ∧ xs = []) ∨ d = .list sz xs false
theorem dI.fz {N T sz : Nat} {h : Zb} {d : DV} {xs : List DV} (hr : dI N T sz h d xs) (hn : ∀ x ∈ xs, Nr x) : ∃ d' h', aJ N h false d = some (d', h') ∧ iW sz d' xs ∧ ∀ T' dl d2 ys, dI N T' dl h d2 ys → dI N T' dl h' d2 ys := by
 rcases hr with ⟨rfl, rfl⟩ | ⟨g, o, rfl, ho, hx⟩
 ·exact ⟨.nils, h, rfl, .inl ⟨rfl, rfl⟩, fun _ _ _ _ h => h⟩
 ·rcases hx with hx | hx
  ·refine ⟨.list sz xs false, h.set o (.frz T sz g xs), ?_, .inr rfl, fun T' dl d2 ys h2 => ?_⟩
   ·simp only [aJ]
    rw [if_neg (by omega), hx]
    simp only
    rw [if_pos ⟨rfl, by simp, hn⟩]
    simp
   ·rcases h2 with h2 | ⟨g2, o2, rfl, NY, oq⟩
    ·exact .inl h2
    ·refine .inr ⟨g2, o2, rfl, NY, ?_⟩
     have hlt := (List.getElem?_eq_some_iff.1 hx).1
     by_cases e : o = o2
     ·subst e
      rw [List.getElem?_set_self hlt]
      rw [hx] at oq
      rcases oq with oq | oq <;> injection oq with oq
      ·injection oq with e1 e2 e3 e4
       subst e1; subst e2; subst e3; subst e4
       exact .inr rfl
      ·cases oq
     ·rw [List.getElem?_set_ne e]; exact oq
  ·refine ⟨.list sz xs false, h, ?_, .inr rfl, fun _ _ _ _ h => h⟩
   simp only [aJ]
   rw [if_neg (by omega), hx]
   simp only
   rw [if_pos ⟨rfl, by simp, hn⟩]
   simp
theorem aN.is {T sz : Nat} {H h : Zb} {d : DV} {xs : List DV} (hg : aN T sz H h d xs) : dI H.length T sz h d xs := by
 rcases hg.2 with h1 | ⟨g, o, h1, h2, h3⟩
 ·exact .inl h1
 ·exact .inr ⟨g, o, h1, h2, .inl h3⟩
theorem dI.low {N M T sz : Nat} {h : Zb} {d : DV} {xs : List DV} (hr : dI N T sz h d xs) (hm : M ≤ N) : dI M T sz h d xs := by
 rcases hr with h1 | ⟨g, o, h1, h2, h3⟩
 ·exact .inl h1
 ·exact .inr ⟨g, o, h1, by omega, h3⟩
theorem LA {H h : Zb} {p1 p2 p3 p4 : Int} {Oq Cd R : DV} {os cs rs : List DV} (ht : h.take H.length = H) (hO : dI H.length 3 1 h Oq os) (hC : dI H.length 70 3 h Cd cs) (hR : dI H.length 3 1 h R rs) (nO : ∀ x ∈ os, Nr x) (nC : ∀ x ∈ cs, Nr x) (nR : ∀ x ∈ rs, Nr x) :
 ∃ O' C' R', fin H h [.agg [.int .i64 p1, .int .i64 p2, .int .i64 p3, .int .i64 p4, Oq, Cd], R, .int .i64 0] = (.tup [.agg [.int .i64 p1, .int .i64 p2, .int .i64 p3, .int .i64 p4, O', C'], R', .int .i64 0], H) ∧ iW 1 O' os ∧ iW 3 C' cs ∧ iW 1 R' rs := by
 obtain ⟨O', h1, f1, l1, k1⟩ := hO.fz nO
 obtain ⟨C', h2, f2, l2, k2⟩ := (k1 _ _ _ _ hC).fz nC
 obtain ⟨R', h3, f3, l3, k3⟩ := (k2 _ _ _ _ (k1 _ _ _ _ hR)).fz nR
 refine ⟨O', C', R', ?_, l1, l2, l3⟩
 have g3 : aH H.length h2 false R = some (R', h3) := by
  rcases hR with ⟨rfl, _⟩ | ⟨g, o, rfl, _, _⟩ <;> exact f3
 simp only [fin]
 rw [if_pos ht]
 have i0 : ∀ (p : Int) (g : Zb), aJ H.length g false (.int .i64 p) = some (.int .i64 p, g) := fun _ _ => rfl
 have i1 : ∀ (p : Int) (g : Zb), aH H.length g false (.int .i64 p) = some (.int .i64 p, g) := fun _ _ => rfl
 have g1 : ∀ cs, aH H.length h false (.agg cs) = match dr H.length cs h with | some (cs', h') => some (.agg cs', h') | none => none := fun _ => rfl
 simp only [bJ, g1, dr, i0, i1, f1, f2, g3]
section
variable {HS : Zb} {o T : Nat}
theorem aN.boxed {T1 sz : Nat} {c c' : List DV} {h : Zb} {d : DV} {xs : List DV} (hg : aN T1 sz (HS.set o (.box T c)) h d xs) (ho : o < HS.length) : aN T1 sz (HS.set o (.box T c')) (h.set o (.box T c')) d xs := by
 obtain ⟨ht, hr⟩ := hg
 rw [List.length_set] at ht
 refine ⟨?_, ?_⟩
 ·rw [List.length_set, List.take_set, ht, List.set_set]
 ·rcases hr with h1 | ⟨g, q, h1, h2, h3⟩
  ·exact .inl h1
  ·rw [List.length_set] at h2
   exact .inr ⟨g, q, h1, by rw [List.length_set]; exact h2, by rw [List.getElem?_set_ne (by omega)]; exact h3⟩
theorem aN.inbox {T1 sz : Nat} {c : List DV} {h : Zb} {d : DV} {xs : List DV} (hg : aN T1 sz (HS.set o (.box T c)) h d xs) (ho : o < HS.length) : h[o]? = some (.box T c) := fe hg.1 (by rw [List.getElem?_set_self ho])
end
theorem aN.one {T sz : Nat} {H h : Zb} {d : DV} {xs : List DV} (hg : aN T sz H h d xs) : d.one = true := by
 rcases hg.2 with ⟨rfl, _⟩ | ⟨g, o, rfl, _, _⟩ <;> rfl
abbrev lu (p1 p2 p3 p4 : Int) (O C : DV) : List DV := [.int .i64 p1, .int .i64 p2, .int .i64 p3, .int .i64 p4, O, C]
theorem Hs {HS : Zb} {A O R : DV} {a b o n : Nat} {p1 p2 p3 p4 : Int} {Z : List Nat} {zs : List Int} (ho : o < HS.length) (hR : ∀ c h, h.take HS.length = HS.set o (.box 28 c) → vw h 1 R = some (Z.map iD) ∧ vw h 1 O = some (zs.map intD)) (hZ : Z.length = n) (hn : n ≤ 1000) (hlt : ∀ z ∈ Z, z < zs.length) :
 ∀ (k i : Nat) (h : Zb) (d : DV), n - i ≤ k → i ≤ n → aN 3 1 (HS.set o (.box 28 (lu p1 p2 p3 p4 d .nils))) h d ((Z.take i).map fun z => intD (zs.getD z 0)) →
  ∃ ex h' d', C X (.loop r8) [(2, A), (3, O), (4, .ref a 0), (8, .ref b 0), (11, .ref o 0), (12, R), (57, R), (58, .int .i64 n), (59, .int .i64 i)] h = some (.exit 1, (2, A) :: (3, O) :: (4, .ref a 0) :: (8, .ref b 0) :: (11, .ref o 0) :: (12, R) :: ex, h') ∧ aN 3 1 (HS.set o (.box 28 (lu p1 p2 p3 p4 d' .nils))) h' d' (Z.map fun z => intD (zs.getD z 0)) := by
 intro k
 induction k with
 | zero =>
  intro i h d hk hi hg
  obtain rfl : i = n := by omega
  refine ⟨[(57, R), (58, .int .i64 i), (59, .int .i64 i), (60, .bool false)], h, d, ?_, by rwa [List.take_of_length_le (by omega)] at hg⟩
  rw [Zc]
  unfold r8
  refine rn trivial ?_
  rw [Zx]
  simp [Za, lk]
 | succ k ih =>
  intro i h d hk hi hg
  by_cases c : i < n
  case neg => exact ih i h d (by omega) hi hg
  have c' : (i : Int) < (n : Int) := by omega
  obtain ⟨I, cZ⟩ : ∃ I, I = i + 1 := ⟨_, rfl⟩
  have z1 : IntKind.i64.wrap ((i : Int) + 1) = (I : Int) := wr
  obtain ⟨z, hz⟩ : ∃ z, Z[i]? = some z := ⟨Z[i]'(by omega), List.getElem?_eq_getElem _⟩
  have cW := hlt z (List.mem_of_getElem? hz)
  obtain ⟨y, hy⟩ : ∃ y, zs[z]? = some y := ⟨zs[z]'cW, List.getElem?_eq_getElem _⟩
  have xK : zs.getD z 0 = y := by rw [List.getD_eq_getElem?_getD, hy]; rfl
  have ht := hg.1
  rw [List.length_set] at ht
  obtain ⟨vR, vO⟩ := hR _ h ht
  obtain ⟨d2, h2, ha, hg2⟩ := hg.app 8 [.int .i64 y] (by simp; omega)
  have zU := hg.inbox ho
  have Rj := hg2.inbox ho
  have dG := hg2.one
  have hc2 := gi dG
  unfold DV.cells at hc2
  have xX := hg2.boxed (c' := lu p1 p2 p3 p4 d2 .nils) ho
  have hw := hg.vw
  have aP := hg.one
  rw [show ((Z.take i).map fun z => intD (zs.getD z 0)) ++ [DV.int .i64 y] = (Z.take I).map fun z => intD (zs.getD z 0) by
   rw [cZ, ← List.take_append_getElem (by omega : i < Z.length), List.map_append]
   rw [List.getElem?_eq_getElem (by omega)] at hz
   injection hz with hz
   simp only [List.map_cons, List.map_nil, hz, xK]] at xX
  have y1 : ∀ h, bw [.int .i64 y] h = some ([.int .i64 y], h) := fun _ => rfl
  have y2 : Wc 1 (.int .i64 y) := by simp [Wc, DV.cells, DV.one]
  have y3 : Nr (.int .i64 y) := .int _ _
  have y4 : ∀ h, aK h 1 (.list 1 [.int .i64 y] true) = some [.int .i64 y] := fun _ => rfl
  have zi : i < (Z.map iD).length := by simp; omega
  have zz : z < (zs.map intD).length := by simp; omega
  have q1 : (Z.map iD)[i]? = some (.int .i64 (z : Nat)) := by rw [List.getElem?_map, hz]; rfl
  have q2 : (zs.map intD)[z]? = some (.int .i64 y) := by rw [List.getElem?_map, hy]; rfl
  have rI : (Z.map iD)[i] = .int .i64 (z : Nat) := by rw [List.getElem?_eq_getElem zi] at q1; injection q1
  have MP : (zs.map intD)[z] = .int .i64 y := by rw [List.getElem?_eq_getElem zz] at q2; injection q2
  have hs : C X r8 [(2, A), (3, O), (4, .ref a 0), (8, .ref b 0), (11, .ref o 0), (12, R), (57, R), (58, .int .i64 n), (59, .int .i64 i)] h = some (.norm, [(2, A), (3, O), (4, .ref a 0), (8, .ref b 0), (11, .ref o 0), (12, R), (57, R), (58, .int .i64 n), (59, .int .i64 I)], h2.set o (.box 28 (lu p1 p2 p3 p4 d2 .nils))) := by
   clear hg hg2 xX ih ht hR hlt hz hy xK
   generalize ((Z.take i).map fun z => intD (zs.getD z 0)) = xs at hw ha
   generalize Z.map iD = Zd at *
   generalize zs.map intD = zd at *
   unfold r8
   refine Yx (Ik @c @c' @z1 @vR @vO @zi @zz @q1 @q2 @rI @MP @zU @aP @y1 @y2 @y3 @y4 @hw @ha @Rj @dG @hc2) ?_
   simp [Za, lk]
  rw [Zc, hs, ZB]
  exact ih I _ d2 (by omega) (by omega) xX
theorem Hq {Hh : Zb} {A R : DV} {b o n kk nc : Nat} {Z : List Nat} {ds : List DV} {rs : List (List V)} (hR : ∀ h : Zb, h.take Hh.length = Hh → vw h 1 R = some (Z.map iD) ∧ vw h 1 A = some ds ∧ ∀ (i : Nat) (d : DV) (vs : List V), ds[i]? = some d → rs[i]? = some vs → vw h 4 d = some (vs.map V.d) ∧ d.one = true) (hZ : Z.length = n) (hn : n ≤ 1000) (bq : ds.length = rs.length) (hlt : ∀ z ∈ Z, z < rs.length) (hkk : ∀ r ∈ rs, kk < r.length) :
 ∀ (k i : Nat) (h : Zb) (d : DV), n - i ≤ k → i ≤ n → aN 56 4 Hh h d ((dU rs (Z.take i) kk).map V.d) →
  ∃ ex h' d', C X (.loop r6) [(2, A), (8, .ref b 0), (11, .ref o 0), (12, R), (15, .int .i64 kk), (16, d), (75, .int .i64 nc), (76, .int .i64 kk), (79, R), (80, .int .i64 n), (81, .int .i64 i)] h = some (.exit 5, (2, A) :: (8, .ref b 0) :: (11, .ref o 0) :: (12, R) :: (15, .int .i64 kk) :: (16, d') :: (75, .int .i64 nc) :: (76, .int .i64 kk) :: ex, h') ∧ aN 56 4 Hh h' d' ((dU rs Z kk).map V.d) := by
 intro k
 induction k with
 | zero =>
  intro i h d hk hi hg
  obtain rfl : i = n := by omega
  refine ⟨[(79, R), (80, .int .i64 i), (81, .int .i64 i), (82, .bool false)], h, d, ?_, by rwa [List.take_of_length_le (by omega)] at hg⟩
  rw [Zc]
  unfold r6
  refine rn trivial ?_
  rw [Zx]
  simp [Za, lk]
 | succ k ih =>
  intro i h d hk hi hg
  by_cases c : i < n
  case neg => exact ih i h d (by omega) hi hg
  have c' : (i : Int) < (n : Int) := by omega
  obtain ⟨I, cZ⟩ : ∃ I, I = i + 1 := ⟨_, rfl⟩
  have z1 : IntKind.i64.wrap ((i : Int) + 1) = (I : Int) := wr
  obtain ⟨z, hz⟩ : ∃ z, Z[i]? = some z := ⟨Z[i]'(by omega), List.getElem?_eq_getElem _⟩
  have cW := hlt z (List.mem_of_getElem? hz)
  obtain ⟨r, hr⟩ : ∃ r, rs[z]? = some r := ⟨rs[z]'cW, List.getElem?_eq_getElem _⟩
  have RL := hkk r (List.mem_of_getElem? hr)
  obtain ⟨v, hv⟩ : ∃ v, r[kk]? = some v := ⟨r[kk]'RL, List.getElem?_eq_getElem _⟩
  obtain ⟨e, he⟩ : ∃ e, ds[z]? = some e := ⟨ds[z]'(by omega), List.getElem?_eq_getElem _⟩
  have RG : (rs.getD z []).getD kk v0 = v := by simp [List.getD_eq_getElem?_getD, hr, hv]
  obtain ⟨vR, vA, vE⟩ := hR h hg.1
  obtain ⟨vr, er⟩ := vE z e r he hr
  have hcl : ((dU rs (Z.take i) kk).map V.d).length ≤ 1000 := by unfold dU; simp; omega
  obtain ⟨d2, h2, ha, hg2⟩ := hg.app 40 [v.d] (by simp only [List.length_cons, List.length_nil]; omega)
  have hw := hg.vw
  rw [show (dU rs (Z.take i) kk).map V.d ++ [v.d] = (dU rs (Z.take I) kk).map V.d by
   unfold dU
   rw [cZ, ← List.take_append_getElem (by omega : i < Z.length), List.map_append]
   rw [List.getElem?_eq_getElem (by omega)] at hz
   injection hz with hz
   simp only [List.map_append, List.map_cons, List.map_nil, hz, RG]] at hg2
  have y1 : ∀ h, bw [v.d] h = some ([v.d], h) := fun _ => rfl
  have y2 : Wc 4 v.d := by simp [Wc, DV.cells, V.d, DV.one]
  have y3 : Nr v.d := v.nr
  have y4 : ∀ h, aK h 4 (.list 4 [v.d] true) = some [v.d] := fun _ => rfl
  have zi : i < (Z.map iD).length := by simp; omega
  have q1 : (Z.map iD)[i]? = some (.int .i64 (z : Nat)) := by rw [List.getElem?_map, hz]; rfl
  have rI : (Z.map iD)[i] = .int .i64 (z : Nat) := by rw [List.getElem?_eq_getElem zi] at q1; injection q1
  have ze : z < ds.length := by omega
  have he' : ds[z] = e := by rw [List.getElem?_eq_getElem ze] at he; injection he
  have zr : kk < (r.map V.d).length := by simpa using RL
  have q2 : (r.map V.d)[kk]? = some v.d := by rw [List.getElem?_map, hv]; rfl
  have MP : (r.map V.d)[kk] = v.d := by rw [List.getElem?_eq_getElem zr] at q2; injection q2
  have ec := gi er
  unfold DV.cells at ec
  have hs : C X r6 [(2, A), (8, .ref b 0), (11, .ref o 0), (12, R), (15, .int .i64 kk), (16, d), (75, .int .i64 nc), (76, .int .i64 kk), (79, R), (80, .int .i64 n), (81, .int .i64 i)] h = some (.norm, [(2, A), (8, .ref b 0), (11, .ref o 0), (12, R), (15, .int .i64 kk), (16, d2), (75, .int .i64 nc), (76, .int .i64 kk), (79, R), (80, .int .i64 n), (81, .int .i64 I)], h2) := by
   clear hg hg2 ih hR hlt hkk hz RG vE hcl hv hr
   generalize (dU rs (Z.take i) kk).map V.d = xs at hw ha
   generalize Z.map iD = Zd at *
   generalize r.map V.d = rd at *
   obtain ⟨vk, vn, vs', vt⟩ := v
   simp only [V.d] at *
   unfold r6
   refine Yx (O0 @c @c' @z1 @vR @vA @vr @er @ec @zi @ze @zr @he @he' @q1 @rI @q2 @MP @y1 @y2 @y3 @y4 @hw @ha) ?_
   simp [Za, lk]
  rw [Zc, hs, ZB]
  exact ih I h2 d2 (by omega) (by omega) hg2
theorem RC.nr {ls : List V} {c : RC} (h : BuiltC ls c) : Nr c.d := by
 unfold RC.d
 refine .agg fun x hx => ?_
 simp only [List.mem_cons, List.mem_nil_iff, or_false] at hx
 rcases hx with rfl | rfl | rfl
 ·exact .int _ _
 ·rcases h.dict with h1 | ⟨h1, _⟩ <;> rw [h1]
  ·exact .list (jX _)
  ·exact .nils
 ·rw [h.B]
  refine .list fun x hx => ?_
  obtain ⟨y, _, rfl⟩ := List.mem_map.1 hx
  exact .int _ _
structure BldV (K : Zb) (o : Nat) (R A : DV) (Z : List Nat) (ds : List DV) (rs : List (List V)) : Prop where
 rd : ∀ c h, h.take K.length = K.set o (.box 28 c) → vw h 1 R = some (Z.map iD) ∧ vw h 1 A = some ds ∧ ∀ (i : Nat) (d : DV) (vs : List V), ds[i]? = some d → rs[i]? = some vs → vw h 4 d = some (vs.map V.d) ∧ d.one = true
 ol : o < K.length
set_option maxHeartbeats 1000000 in
theorem Hr {K : Zb} {A R Oq : DV} {b o n nc : Nat} {p1 p2 p3 p4 : Int} {Z : List Nat} {ds : List DV} {rs : List (List V)} (hK : BldV K o R A Z ds rs) (mM : Oq.one = true) (hZ : Z.length = n) (hn : n ≤ 200) (bq : ds.length = rs.length) (hlt : ∀ z ∈ Z, z < rs.length) (hnc : ∀ r ∈ rs, r.length = nc) (Wb : nc ≤ 100) (hmay : ∀ r ∈ rs, ∀ v ∈ r, aF v = true) :
 ∀ (q k : Nat) (h : Zb) (d : DV) (cs : List RC), nc - k ≤ q → k ≤ nc → cs.length = k → (∀ j c, cs[j]? = some c → BuiltC (dU rs Z j) c) → aN 70 3 (K.set o (.box 28 (lu p1 p2 p3 p4 Oq d))) h d (cs.map RC.d) →
  ∃ (ex : Env) (h' : Zb) (d' : DV) (cs' : List RC), C X (.loop r7) [(2, A), (8, .ref b 0), (11, .ref o 0), (12, R), (75, .int .i64 nc), (76, .int .i64 k)] h = some (.exit 3, (2, A) :: (8, .ref b 0) :: (11, .ref o 0) :: (12, R) :: ex, h') ∧ cs'.length = nc ∧ (∀ j c, cs'[j]? = some c → BuiltC (dU rs Z j) c) ∧ aN 70 3 (K.set o (.box 28 (lu p1 p2 p3 p4 Oq d'))) h' d' (cs'.map RC.d) := by
 intro q
 induction q with
 | zero =>
  intro k h d cs hq hk hcl hcs hg
  obtain rfl : k = nc := by omega
  refine ⟨[(75, .int .i64 k), (76, .int .i64 k), (77, .bool false)], h, d, cs, ?_, hcl, hcs, hg⟩
  rw [Zc]
  unfold r7
  refine rn trivial ?_
  rw [Zx]
  simp [Za, lk]
 | succ q ih =>
  intro k h d cs hq hk hcl hcs hg
  by_cases c : k < nc
  case neg => exact ih k h d cs (by omega) hk hcl hcs hg
  have c' : (k : Int) < (nc : Int) := by omega
  obtain ⟨k2, qd⟩ : ∃ k2, k2 = k + 1 := ⟨_, rfl⟩
  have z1 : IntKind.i64.wrap ((k : Int) + 1) = (k2 : Int) := wr
  have ht := hg.1
  rw [List.length_set] at ht
  have hpre : ∀ h' : Zb, h'.take h.length = h → vw h' 1 R = some (Z.map iD) ∧ vw h' 1 A = some ds ∧ ∀ (i : Nat) (d : DV) (vs : List V), ds[i]? = some d → rs[i]? = some vs → vw h' 4 d = some (vs.map V.d) ∧ d.one = true := fun h' hh => hK.rd (lu p1 p2 p3 p4 Oq d) h' (by
   have hl : K.length ≤ h.length := by have := congrArg List.length ht; rw [List.length_take, List.length_set] at this; omega
   have e1 : h'.take K.length = (h'.take h.length).take K.length := by rw [List.take_take, Nat.min_eq_left hl]
   rw [e1, hh, ht])
  obtain ⟨vR, _, _⟩ := hpre h List.take_length
  obtain ⟨ex, h3, vd, hc, xX⟩ := Hq (b := b) (o := o) (nc := nc) (kk := k) hpre hZ (by omega) bq hlt (fun r hr => by rw [hnc r hr]; exact c) n 0 h .nils (by omega) (by omega) aN.zero
  rw [show ((0 : Nat) : Int) = 0 from rfl] at hc
  have CW : (dU rs Z k).length = n := by unfold dU; rw [List.length_map, hZ]
  have l7 : ∀ g : Zb, g.take h3.length = h3 → vw g 4 vd = some ((dU rs Z k).map V.d) := fun g hh => Eh hh xX.vw
  have hcm : ∀ v ∈ dU rs Z k, aF v = true := fun v hv => by
   unfold dU at hv
   obtain ⟨z, hz, rfl⟩ := List.mem_map.1 hv
   have cW := hlt z hz
   have hr : rs.getD z [] = rs[z] := by simp [List.getD_eq_getElem?_getD, cW]
   rw [hr]
   have hm := List.getElem_mem cW
   have vi : k < rs[z].length := by rw [hnc _ hm]; exact c
   rw [List.getD_eq_getElem?_getD, List.getElem?_eq_getElem vi]
   exact hmay _ hm _ (List.getElem_mem _)
  rcases Md (H := h3) l7 (by omega) with ⟨Sd, ys, SK, hS, hU, hm, tP, BH⟩ | ⟨_, v, hv, xR⟩
  case inr => exact absurd (hcm v hv) (by rw [xR]; simp)
  obtain ⟨cc, cC⟩ : ∃ cc : RC, cc = ⟨((dU rs Z k).length : Nat), ys, pack ((dU rs Z k).map (place ys)) (wC ys.length), Sd, .list 1 ((pack ((dU rs Z k).map (place ys)) (wC ys.length)).map bD) false⟩ := ⟨_, rfl⟩
  have hbc : BuiltC (dU rs Z k) cc := by
   rw [cC]; exact ⟨rfl, rfl, hU, hm, tP, BH, hS, rfl⟩
  have Oj : cc.d = e7 ((dU rs Z k).length : Nat) Sd (.list 1 ((pack ((dU rs Z k).map (place ys)) (wC ys.length)).map bD) false) := by rw [cC]; rfl
  rw [← Oj] at SK
  obtain ⟨h4, N4⟩ : ∃ h4, h4 = h3 ++ [HO.box 70 [.int .i64 cc.n, cc.D, cc.B]] := ⟨_, rfl⟩
  have E8 : aN 70 3 (K.set o (.box 28 (lu p1 p2 p3 p4 Oq d))) h4 d (cs.map RC.d) := by
   obtain ⟨G, hG⟩ := take_split xX.1
   rw [N4, hG, List.append_assoc]
   exact hg.ext _
  obtain ⟨d2, h5, ha, J6⟩ := E8.app 56 [cc.d] (by simp only [List.length_map, List.length_cons, List.length_nil]; omega)
  have Ka := E8.inbox hK.ol
  have Vn := J6.inbox hK.ol
  have Ot : h3[o]? = some (.box 28 (lu p1 p2 p3 p4 Oq d)) := fe xX.1 (hg.inbox hK.ol)
  have dG := J6.one
  have hc2 := gi dG
  unfold DV.cells at hc2
  have hw := E8.vw
  have aP := E8.one
  have N7 := J6.boxed (c' := lu p1 p2 p3 p4 Oq d2) hK.ol
  have VQ : h4[h3.length]? = some (.box 70 [.int .i64 cc.n, cc.D, cc.B]) := by rw [N4]; simp
  rw [show cs.map RC.d ++ [cc.d] = (cs ++ [cc]).map RC.d by rw [List.map_append]; rfl] at N7
  have Oe : ∀ j c, (cs ++ [cc])[j]? = some c → BuiltC (dU rs Z j) c := fun j c hj => by
   by_cases e : j < cs.length
   ·rw [List.getElem?_append_left e] at hj; exact hcs j c hj
   ·have hl := (List.getElem?_eq_some_iff.1 hj).1
    rw [List.length_append, List.length_cons, List.length_nil] at hl
    have : j = cs.length := by omega
    subst this
    rw [List.getElem?_append_right (Nat.le_refl _), Nat.sub_self] at hj
    injection hj with hj
    rw [← hj, hcl]; exact hbc
  have y1 : ∀ h, bw [cc.d] h = some ([cc.d], h) := fun h => by
   unfold RC.d
   rcases hbc.dict with h1 | ⟨h1, _⟩ <;> rw [h1, hbc.B] <;> rfl
  have y2 : Wc 3 cc.d := by
   unfold RC.d
   rcases hbc.dict with h1 | ⟨h1, _⟩ <;> rw [h1, hbc.B] <;> simp [Wc, DV.cells, DV.one]
  have y3 : Nr cc.d := RC.nr hbc
  have y4 : ∀ h, aK h 3 (.list 3 [cc.d] true) = some [cc.d] := fun _ => rfl
  have oF : cc.D.one = true := hbc.dict.one
  have fQ : cc.B.one = true := by rw [hbc.B]; rfl
  have hs : C X r7 [(2, A), (8, .ref b 0), (11, .ref o 0), (12, R), (75, .int .i64 nc), (76, .int .i64 k)] h = some (.norm, [(2, A), (8, .ref b 0), (11, .ref o 0), (12, R), (75, .int .i64 nc), (76, .int .i64 k2)], h5.set o (.box 28 (lu p1 p2 p3 p4 Oq d2))) := by
   have xY : (Z.map iD).length = n := by rw [List.length_map, hZ]
   clear hg xX J6 N7 E8 ih hpre hK hlt hnc hmay hcs Oe hbc hcm l7 hm BH hU hS tP cC Oj ht
   generalize cs.map RC.d = xs at hw ha
   generalize Z.map iD = Zd at *
   unfold RC.d at *
   obtain ⟨cn, Wx, WA, cD, cB⟩ := cc
   simp only at *
   unfold r7
   refine rn (df @c @c' @vR @xY) ?_
   refine Yy ?_
   rw [hc]
   subst N4
   refine Yx (qJ @z1 @SK @Ot @Ka @Vn @aP @dG @hc2 @oF @fQ @y1 @y2 @y3 @y4 @hw @ha @VQ) ?_
   simp [Za, lk]
  rw [Zc, hs, ZB]
  exact ih k2 _ d2 (cs ++ [cc]) (by omega) (by omega) (by rw [List.length_append, List.length_cons, List.length_nil]; omega) Oe N7
section
variable {K h : Zb} {o : Nat} {x : HO}
theorem uV (ht : h.take K.length = K.set o x) {j : Nat} (hj : j < K.length) (Va : j ≠ o) : h[j]? = K[j]? := by
 have : (h.take K.length)[j]? = (K.set o x)[j]? := by rw [ht]
 rw [List.getElem?_take_of_lt hj, List.getElem?_set_ne (fun h => Va h.symm)] at this
 exact this
theorem tj {H : Zb} (ht : h.take K.length = K.set o x) (hl : H.length ≤ o) (oW : o < K.length) (hK : K.take H.length = H) : h.take H.length = H := by
 have e1 : h.take H.length = (h.take K.length).take H.length := by rw [List.take_take, Nat.min_eq_left (by omega)]
 rw [e1, ht, List.take_set_of_le hl, hK]
theorem dI.pre {N T sz : Nat} {d : DV} {xs : List DV} (hr : dI N T sz K d xs) (hN : o < N) (ht : h.take K.length = K.set o x) : dI N T sz h d xs := by
 rcases hr with h1 | ⟨g, q, h1, h2, h3⟩
 ·exact .inl h1
 ·refine .inr ⟨g, q, h1, h2, ?_⟩
  have hq : q < K.length := by
   rcases h3 with h3 | h3 <;> exact (List.getElem?_eq_some_iff.1 h3).1
  rw [uV ht hq (by omega)]
  exact h3
theorem dI.set {N T sz b : Nat} {d : DV} {xs : List DV} {y : HO} (hr : dI N T sz h d xs) (hb : b < N) : dI N T sz (h.set b y) d xs := by
 rcases hr with h1 | ⟨g, q, h1, h2, h3⟩
 ·exact .inl h1
 ·exact .inr ⟨g, q, h1, h2, by rw [List.getElem?_set_ne (by omega)]; exact h3⟩
theorem dI.vw {N T sz : Nat} {d : DV} {xs : List DV} (hr : dI N T sz h d xs) : Go.Proofs.YtmbgfbomgbdjeaaGreatDoor.vw h sz d = some xs := by
 rcases hr with ⟨rfl, rfl⟩ | ⟨g, q, rfl, h2, h3⟩
 ·rfl
 ·rcases h3 with h3 | h3 <;> simp [Go.Proofs.YtmbgfbomgbdjeaaGreatDoor.vw, h3, List.take_of_length_le]
end
theorem Ih {c : Cl} {v : V} (h : iP c v = true) : aF v = true := by
 unfold iP at h
 simp only [Bool.and_eq_true] at h
 exact h.1
theorem yf : ∀ (cs : List Cl) (vs : List V), cs.length = vs.length → iC cs vs = true → ∀ v ∈ vs, aF v = true
 | [], [], _, _ => by simp
 | [], _ :: _, h, _ => by simp at h
 | _ :: _, [], h, _ => by simp at h
 | c :: cs, v :: vs, hl, h => by
  simp only [iC, Bool.and_eq_true] at h
  intro w hw
  rcases List.mem_cons.1 hw with rfl | hw
  ·exact Ih h.1
  ·exact yf cs vs (by simpa using hl) h.2 w hw
theorem ye {s : Sch} {r : List V} (h : dX s r = true) : ∀ v ∈ r, aF v = true := by
 have hl := o9 h
 unfold dX at h
 simp only [Bool.and_eq_true, decide_eq_true_eq] at h
 exact yf _ _ hl.symm h.2.2
theorem Ew {d : DV} {Z : List Nat} {H : Zb} (hd : AU d Z) : ∃ R G, af d H = (R, H ++ G) ∧ dI H.length 3 1 (H ++ G) R (Z.map iD) ∧ R.one = true := by
 rcases hd with ⟨rfl, rfl⟩ | rfl
 ·exact ⟨.nils, [], by simp [af], .inl ⟨rfl, rfl⟩, rfl⟩
 ·refine ⟨.row H.length 0 0 (Z.map iD).length false, [.row 3 1 0 (Z.map iD)], by simp [af], .inr ⟨0, H.length, rfl, Nat.le_refl _, .inl (by simp)⟩, rfl⟩
set_option maxHeartbeats 2000000 in
theorem QW {H : Zb} {Cd A O Of Cs : DV} {s : Sch} {p1 p2 p3 p4 : Int} {ds : List DV} {rs : List (List V)} {zs : List Int} (hC : ∀ g, vw g 3 Cd = some (s.cols.map Cl.d)) (aR : Cd.one = true) (hl : s.cols.length ≤ 1000) (dV : A.one = true) (hA : ∀ G, vw (H ++ G) 1 A = some ds) (hE : cF H ds rs) (hb : rs.length ≤ 200) (hO : ∀ G, vw (H ++ G) 1 O = some (zs.map intD)) (hok : Du s p1 p2 p3 p4 rs zs) :
 ∃ O' C' R' Z cs, E X 13 [Yl Cd s, .agg [.int .i64 p1, .int .i64 p2, .int .i64 p3, .int .i64 p4, Of, Cs], A, O] H = some (.tup [.agg [.int .i64 p1, .int .i64 p2, .int .i64 p3, .int .i64 p4, O', C'], R', .int .i64 0], H) ∧ OrdZ s rs Z ∧ BldC s rs Z cs ∧ iW 1 R' (Z.map iD) ∧ iW 1 O' (Z.map fun z => intD (zs.getD z 0)) ∧ iW 3 C' (cs.map RC.d) := by
 obtain ⟨k1, k2, k3, k4⟩ := hok
 obtain ⟨HB, dc⟩ : ∃ HB, HB = H ++ [HO.box 24 [Cd, .int .i64 s.key, .int .i64 s.cmp, .int .i64 s.del, .int .i64 s.sort], .box 28 [.int .i64 p1, .int .i64 p2, .int .i64 p3, .int .i64 p4, Of, Cs], .box 28 [.int .i64 0, .int .i64 0, .int .i64 0, .int .i64 0, .nils, .nils]] := ⟨_, rfl⟩
 obtain ⟨H1, ay⟩ : ∃ H1, H1 = H ++ [HO.box 24 [Cd, .int .i64 s.key, .int .i64 s.cmp, .int .i64 s.del, .int .i64 s.sort], .box 28 [.int .i64 p1, .int .i64 p2, .int .i64 p3, .int .i64 p4, Of, Cs], .box 28 [.int .i64 0, .int .i64 0, .int .i64 0, .int .i64 0, .nils, .nils], .box 28 (lu p1 p2 p3 p4 .nils .nils)] := ⟨_, rfl⟩
 have fC : ∀ G, vw (HB ++ G) 1 A = some ds := fun G => by rw [dc, List.append_assoc]; exact hA _
 have OA : ∀ G, vw (HB ++ G) 1 O = some (zs.map intD) := fun G => by rw [dc, List.append_assoc]; exact hO _
 have hA0 : vw HB 1 A = some ds := by have := fC []; rwa [List.append_nil] at this
 have Se : vw HB 1 O = some (zs.map intD) := by have := OA []; rwa [List.append_nil] at this
 have zV : cF HB ds rs := by rw [dc]; exact hE.ext _
 have OP : ∀ G, vw (H1 ++ G) 1 A = some ds := fun G => by rw [ay, List.append_assoc]; exact hA _
 have OI : cF H1 ds rs := by rw [ay]; exact hE.ext _
 have kM := DY p1 p2 p3 p4 Of Cs
 rw [k1] at kM
 have qn := Co (H := HB) (A := A) hC hl fC zV (by omega)
 rw [k2] at qn
 obtain ⟨B5, Pe, NS⟩ := JH (H := HB) (L := O) (Of := Of) (Cs := Cs) (p1 := p1) (p2 := p2) (p3 := p3) (p4 := p4) OA (by omega)
 rw [NS.2 k4] at Pe
 rcases QU (H := H1) (Cd := Cd) (s := s) hC aR hl dV OP OI (by omega) with ⟨hf, _⟩ | ⟨_, d, Z, SU, hd, hZ⟩
 case inl => rw [k2] at hf; cases hf
 have jv : A.isU = false := by cases A <;> first | rfl | simp [DV.one] at dV
 have jw := gi dV
 unfold DV.cells at jw
 unfold DV.isU at jv
 have bq : ds.length = rs.length := hE.1
 have RQ : (zs.map intD).length = zs.length := List.length_map _
 obtain ⟨R, G, sx, Fg, xZ⟩ := Ew (H := H1) hd
 obtain ⟨HS, BK⟩ : ∃ HS, HS = H1 ++ G := ⟨_, rfl⟩
 rw [← BK] at sx Fg
 obtain ⟨o, ho⟩ : ∃ o, o = H.length + 3 := ⟨_, rfl⟩
 have T0 : H1.length = o + 1 := by rw [ay, ho]; simp
 have EZ : o < HS.length := by rw [BK, List.length_append]; omega
 have Ff : HS[o]? = some (.box 28 (lu p1 p2 p3 p4 .nils .nils)) := by
  rw [BK, List.getElem?_append_left (by omega), ay, ho]; simp
 have Ox : HS.take H.length = H := by rw [BK, ay, List.append_assoc]; exact List.take_left
 have xY : Z.length = rs.length := by rw [hZ.perm.length_eq]; simp
 have hlt : ∀ z ∈ Z, z < rs.length := fun z hz => List.mem_range.1 (hZ.perm.mem_iff.1 hz)
 have Jp : HS.set o (.box 28 (lu p1 p2 p3 p4 .nils .nils)) = HS := by
  apply List.ext_getElem?
  intro j
  by_cases e : o = j
  ·subst e; rw [List.getElem?_set_self EZ, Ff]
  ·rw [List.getElem?_set_ne e]
 have oW : H.length ≤ o := by omega
 obtain ⟨VP, h1, Oq, hc0, hg0⟩ := Hs (HS := HS) (A := A) (O := O) (R := R) (a := H.length) (b := H.length + 2) (o := o) (n := rs.length) (p1 := p1) (p2 := p2) (p3 := p3) (p4 := p4) (Z := Z) (zs := zs) EZ (fun c h ht => by
  have hp := tj ht oW EZ Ox
  obtain ⟨G2, gE⟩ := take_split hp
  exact ⟨(Fg.pre (by omega) ht).vw, by rw [gE]; exact hO _⟩) xY (by omega) (fun z hz => by have := hlt z hz; omega) rs.length 0 HS .nils (by omega) (by omega) (by rw [Jp]; exact aN.zero)
 rw [show ((0 : Nat) : Int) = 0 from rfl] at hc0
 have ht1 := hg0.1
 rw [List.length_set] at ht1
 have SB : HS.length ≤ h1.length := by have := congrArg List.length ht1; rw [List.length_take, List.length_set] at this; omega
 have xQ : o < h1.length := by omega
 have VH := hg0.inbox EZ
 have OT := tj ht1 oW EZ Ox
 have Jq : h1.set o (.box 28 (lu p1 p2 p3 p4 Oq .nils)) = h1 := by
  apply List.ext_getElem?
  intro j
  by_cases e : o = j
  ·subst e; rw [List.getElem?_set_self xQ, VH]
  ·rw [List.getElem?_set_ne e]
 have HW : dI (o + 1) 3 1 h1 R (Z.map iD) := by
  have := Fg.pre (by omega) ht1
  rwa [T0] at this
 have Oz : dI (o + 1) 3 1 h1 Oq (Z.map fun z => intD (zs.getD z 0)) := hg0.is.low (by rw [List.length_set]; omega)
 have hfits := j6 k2
 have hK : BldV h1 o R A Z ds rs := ⟨fun c h ht => by
  have hp := tj ht oW xQ OT
  obtain ⟨G2, gE⟩ := take_split hp
  refine ⟨(HW.pre (by omega) ht).vw, by rw [gE]; exact hA _, fun i d vs h1 h2 => ?_⟩
  obtain ⟨q1, q2⟩ := hE.2 i d vs h1 h2
  exact ⟨by rw [gE]; exact q1 _, q2⟩, xQ⟩
 obtain ⟨VO, h2, Cq, cs, hc1, hcl, hcb, hg1⟩ := Hr (K := h1) (A := A) (R := R) (Oq := Oq) (b := H.length + 2) (o := o) (n := rs.length) (nc := s.cols.length) (p1 := p1) (p2 := p2) (p3 := p3) (p4 := p4) (Z := Z) hK hg0.one xY hb bq hlt (fun r hr => o9 (hfits.2 r hr)) (by have := (uO hfits.1).2.1; omega) (fun r hr => ye (hfits.2 r hr)) s.cols.length 0 h1 .nils [] (by omega) (by omega) rfl (fun j c hj => by simp at hj) (by rw [Jq]; exact aN.zero)
 rw [show ((0 : Nat) : Int) = 0 from rfl] at hc1
 have ou := hg1.1
 rw [List.length_set] at ou
 have Sz := hg1.inbox xQ
 have SA := tj ou oW xQ OT
 have SD : h1[H.length]? = some (.box 24 [Cd, .int .i64 s.key, .int .i64 s.cmp, .int .i64 s.del, .int .i64 s.sort]) := by
  rw [uV ht1 (by omega) (by omega), BK, List.getElem?_append_left (by omega), ay]; simp
 have OS : h2[H.length + 2]? = some (.box 28 [.int .i64 0, .int .i64 0, .int .i64 0, .int .i64 0, .nils, .nils]) := by
  rw [uV ou (by omega) (by omega), uV ht1 (by omega) (by omega), BK, List.getElem?_append_left (by omega), ay]; simp
 have VG := (List.getElem?_eq_some_iff.1 OS).1
 obtain ⟨h3, oA⟩ : ∃ h3, h3 = h2.set (H.length + 2) (.box 28 (lu p1 p2 p3 p4 Oq Cq)) := ⟨_, rfl⟩
 have Sy : h3[H.length + 2]? = some (.box 28 (lu p1 p2 p3 p4 Oq Cq)) := by rw [oA, List.getElem?_set_self VG]
 have Sb := hg0.one
 have Ss := hg1.one
 obtain ⟨O', C', R', aA, l1, l2, l3⟩ := LA (H := H) (h := h3) (p1 := p1) (p2 := p2) (p3 := p3) (p4 := p4) (Oq := Oq) (Cd := Cq) (R := R) (by rw [oA, List.take_set_of_le (by omega)]; exact SA) (by rw [oA]; exact ((Oz.pre (by omega) ou).set (by omega)).low (by omega)) (by rw [oA]; exact ((hg1.is.low (M := o + 1) (by rw [List.length_set]; omega)).set (by omega)).low (by omega)) (by rw [oA]; exact ((HW.pre (by omega) ou).set (by omega)).low (by omega)) (fun x hx => by obtain ⟨y, _, rfl⟩ := List.mem_map.1 hx; exact .int _ _) (fun x hx => by
  obtain ⟨y, hy, rfl⟩ := List.mem_map.1 hx
  obtain ⟨j, hj, rfl⟩ := List.mem_iff_getElem.1 hy
  exact RC.nr (hcb j _ (List.getElem?_eq_getElem hj))) (fun x hx => by obtain ⟨y, _, rfl⟩ := List.mem_map.1 hx; exact .int _ _)
 refine ⟨O', C', R', Z, cs, ?_, hZ, ⟨hcl, hcb⟩, l3, l1, l2⟩
 have ku : vw HS 1 R = some (Z.map iD) := Fg.vw
 have R5 : (Z.map iD).length = rs.length := by rw [List.length_map, xY]
 have mU : (s.cols.map Cl.d).length = s.cols.length := List.length_map _
 have m1 : ¬ (4096 : Int) < (rs.length : Int) := by omega
 have m2 : ¬ 4096 < rs.length := by omega
 clear fC OA zV OP OI hA hO hE NS Fg HW Oz hK hg0 hg1 hcb l1 l2 l3 hfits hZ ht1 ou OT SA Jq Jp Ox hlt k4
 subst dc
 subst ay
 subst ho
 obtain ⟨cols, EM, EL, EK, Wk⟩ := s
 simp only [Yl, Yi] at *
 generalize Z.map iD = Zd at *
 rcases hd with ⟨rfl, _⟩ | rfl
 ·simp only [af, Prod.mk.injEq] at sx
  obtain ⟨rfl, rfl⟩ := sx
  rw [Zv (X := X) _ Gp _ rfl rfl]; unfold Gp
  refine Yx (qJ @aR @dV @jv @jw @kM @qn @Pe @SU @hA0 @Se @bq @RQ @R5 @ku @k3 @m1 @m2) ?_
  refine Yy ?_
  rw [hc0]
  refine Yx (cg @SD @hC @mU) ?_
  refine Yy ?_
  rw [hc1]
  refine Yx (df @Sz @Sb @Ss @OS) ?_
  rw [← oA]
  simp only [Zh, ZV, lk, Za, List.map_cons, List.map_nil, reduceIte, Option.map_some, Nat.reduceEqDiff]
  rw [Zo, Sy]
  exact congrArg some aA
 ·simp only [af, Prod.mk.injEq] at sx
  obtain ⟨rfl, rfl⟩ := sx
  simp only [List.length_append, List.length_cons, List.length_nil, Nat.zero_add, Nat.reduceAdd, List.append_assoc, List.cons_append, List.nil_append, List.length_map] at ku hc0 hc1 aA
  rw [Zv (X := X) _ Gp _ rfl rfl]; unfold Gp
  refine Yx (qJ @aR @dV @jv @jw @kM @qn @Pe @SU @hA0 @Se @bq @RQ @R5 @ku @k3 @m1 @m2) ?_
  refine Yy ?_
  rw [hc0]
  refine Yx (cg @SD @hC @mU) ?_
  refine Yy ?_
  rw [hc1]
  refine Yx (df @Sz @Sb @Ss @OS) ?_
  rw [← oA]
  simp only [Zh, ZV, lk, Za, List.map_cons, List.map_nil, reduceIte, Option.map_some, Nat.reduceEqDiff]
  rw [Zo, Sy]
  exact congrArg some aA
def j9 (rs : List (List V)) (Z : List Nat) : List (List V) := Z.map fun z => rs.getD z []
def ki (zs : List Int) (Z : List Nat) : List Int := Z.map fun z => zs.getD z 0
section
variable {s : Sch} {rs : List (List V)} {zs : List Int} {Z : List Nat} {cs : List RC} {p1 p2 p3 p4 : Int}
theorem OrdZ.len (h : OrdZ s rs Z) : Z.length = rs.length := by rw [h.perm.length_eq]; simp
theorem OrdZ.lt (h : OrdZ s rs Z) : ∀ z ∈ Z, z < rs.length := fun z hz => List.mem_range.1 (h.perm.mem_iff.1 hz)
theorem OrdZ.uniq {W : List Nat} (h : OrdZ s rs Z) (h' : OrdZ s rs W) : Z = W := by
 have ht : ∀ x y z : Nat, Lx (dQ s rs) x y → Lx (dQ s rs) y z → Lx (dQ s rs) x z := by
  intro x y z h1 h2
  have a1 := lA s rs
  have a2 := qy s rs
  unfold Lx at *
  have b1 := a2 x y z (by omega) (by omega)
  have c1 := a1 x z; have c2 := a1 z x; have c3 := a1 y z; have c4 := a1 z y; have c5 := a1 x y; have c6 := a1 y x
  by_cases e : dQ s rs x z = 0
  ·have d1 := a2 z x y (by omega) (by omega)
   have d2 := a2 y z x (by omega) (by omega)
   right; omega
  ·left; omega
 have J4 : ∀ x : Nat, ¬ Lx (dQ s rs) x x := by
  intro x h
  have := lA s rs x x
  unfold Lx at h
  omega
 have hp : Z.Perm W := h.perm.trans h'.perm.symm
 have h1 := h.lx
 have h2 := h'.lx
 clear h h'
 induction Z generalizing W with
 | nil => exact (List.nil_perm.1 hp).symm
 | cons a Z ih =>
  cases W with
  | nil => exact absurd (List.perm_nil.1 hp) (by simp)
  | cons b W =>
   have e : a = b := by
    have ha : a ∈ b :: W := hp.mem_iff.1 (by simp)
    have hb : b ∈ a :: Z := hp.mem_iff.2 (by simp)
    rcases List.mem_cons.1 ha with e | ha
    ·exact e
    rcases List.mem_cons.1 hb with e | hb
    ·exact e.symm
    exact absurd (ht _ _ _ ((List.pairwise_cons.1 h1).1 b hb) ((List.pairwise_cons.1 h2).1 a ha)) (J4 a)
   subst e
   rw [ih ((List.perm_cons a).1 hp) (List.pairwise_cons.1 h1).2 (List.pairwise_cons.1 h2).2]
theorem ul (h : nj p3 p4 zs) : zs.Pairwise (· < ·) := by
 rw [List.pairwise_iff_getElem]
 intro i j hi hj hij
 induction j with
 | zero => omega
 | succ j ih =>
  have hj' : j < zs.length := by omega
  have h1 := (h (j + 1) hj zs[j + 1] (List.getElem?_eq_getElem hj)).2.2 (by omega) zs[j] (by simp [List.getElem?_eq_getElem hj'])
  by_cases e : i = j
  ·subst e; exact h1
  ·exact Int.lt_trans (ih hj' (by omega)) h1
theorem Em (h : OrdZ s rs Z) (hl : zs.length = rs.length) : (ki zs Z).Perm zs := by
 have h1 : (ki zs Z).Perm ((List.range zs.length).map fun z => zs.getD z 0) := by
  unfold ki
  rw [hl]
  exact h.perm.map _
 have h2 : ((List.range zs.length).map fun z => zs.getD z 0) = zs := by
  apply List.ext_getElem
  ·simp
  ·intro i a b
   simp [List.getD_eq_getElem?_getD, b]
 rwa [h2] at h1
theorem uN (ws : List Int) : (cO ws).Perm ws := List.mergeSort_perm _ _
theorem Be (ws : List Int) : (cO ws).Pairwise (· ≤ ·) := by
 have := List.pairwise_mergeSort (le := fun (x y : Int) => decide (x ≤ y)) (fun a b c h1 h2 => by simp at *; omega) (fun a b => by simp; omega) ws
 unfold cO
 exact this.imp (fun h => by simpa using h)
theorem Lr : ∀ {xs ys : List Int}, xs.Perm ys → xs.Pairwise (· ≤ ·) → ys.Pairwise (· ≤ ·) → xs = ys := by
 intro xs
 induction xs with
 | nil => intro ys hp _ _; exact (List.nil_perm.1 hp).symm
 | cons a xs ih =>
  intro ys hp h1 h2
  cases ys with
  | nil => exact absurd (List.perm_nil.1 hp) (by simp)
  | cons b ys =>
   have e : a = b := by
    have ha : a ∈ b :: ys := hp.mem_iff.1 (by simp)
    have hb : b ∈ a :: xs := hp.mem_iff.2 (by simp)
    rcases List.mem_cons.1 ha with e | ha
    ·exact e
    rcases List.mem_cons.1 hb with e | hb
    ·exact e.symm
    have := (List.pairwise_cons.1 h1).1 b hb
    have := (List.pairwise_cons.1 h2).1 a ha
    omega
   subst e
   rw [ih ((List.perm_cons a).1 hp) (List.pairwise_cons.1 h1).2 (List.pairwise_cons.1 h2).2]
theorem G4 (h : OrdZ s rs Z) (hl : zs.length = rs.length) (hr : nj p3 p4 zs) : cO (ki zs Z) = zs :=
 Lr ((uN _).trans (Em h hl)) (Be _) ((ul hr).imp (fun h => by omega))
theorem qM (k : Nat) : (dU rs Z k).length = Z.length := by simp [dU]
theorem Dj (hC : BldC s rs Z cs) (hlen : ∀ r ∈ rs, r.length = s.cols.length) (hZ : ∀ z ∈ Z, z < rs.length) (hl : Z.length ≤ 200) : fu (cs.map RC.sc) Z.length = j9 rs Z := by
 apply List.ext_getElem
 ·simp [fu, j9]
 ·intro i h1 h2
  have hi : i < Z.length := by simpa [j9] using h2
  have EQ := hZ _ (List.getElem_mem hi)
  have hr : rs.getD Z[i] [] = rs[Z[i]] := by simp [List.getD_eq_getElem?_getD, EQ]
  have j4 := hlen _ (List.getElem_mem EQ)
  have e1 : (fu (cs.map RC.sc) Z.length)[i] = (cs.map RC.sc).map fun c => c.val i := by simp [fu, Ct]
  have e2 : (j9 rs Z)[i] = rs.getD Z[i] [] := by simp [j9]
  rw [e1, e2, hr]
  apply List.ext_getElem
  ·simp [hC.len, j4]
  ·intro k k1 k2
   have hk : k < cs.length := by simpa using k1
   have hb := hC.col k _ (List.getElem?_eq_getElem hk)
   simp only [List.getElem_map]
   apply hb.val (by rw [qM]; exact hl)
   unfold dU
   rw [List.getElem?_map, List.getElem?_eq_getElem hi]
   simp only [Option.map_some]
   rw [hr, List.getD_eq_getElem?_getD, List.getElem?_eq_getElem k2]
   rfl
theorem FI (hf : ey s rs = true) (hZ : ∀ z ∈ Z, z < rs.length) : ey s (j9 rs Z) = true := by
 obtain ⟨h1, h2⟩ := j6 hf
 unfold ey
 simp only [Bool.and_eq_true, Bool.not_eq_true', List.any_eq_false]
 refine ⟨h1, fun r hr => ?_⟩
 unfold j9 at hr
 obtain ⟨z, hz, rfl⟩ := List.mem_map.1 hr
 have EQ := hZ z hz
 have e : rs.getD z [] = rs[z] := by simp [List.getD_eq_getElem?_getD, EQ]
 rw [e, h2 _ (List.getElem_mem EQ)]
 simp
theorem FY (hok : Du s p1 p2 p3 p4 rs zs) (hZ : OrdZ s rs Z) (hC : BldC s rs Z cs) (hb : rs.length ≤ 200) : MayOk s p1 p2 p3 p4 (ki zs Z) cs := by
 obtain ⟨k1, k2, k3, k4⟩ := hok
 have hfits := j6 k2
 have hlen : ∀ r ∈ rs, r.length = s.cols.length := fun r hr => o9 (hfits.2 r hr)
 have xY := hZ.len
 have oW : (ki zs Z).length = Z.length := by simp [ki]
 have hrows := Dj hC hlen hZ.lt (by omega)
 refine ⟨fun c hc => ?_, k1, hC.len, ?_, ?_, fun j h1 h2 => ?_⟩
 ·obtain ⟨k, hk, rfl⟩ := List.mem_iff_getElem.1 hc
  have hbc := hC.col k _ (List.getElem?_eq_getElem hk)
  refine ⟨by rw [hbc.n, qM, oW], hbc.okC (by rw [qM]; omega)⟩
 ·rw [oW, hrows]; exact FI k2 hZ.lt
 ·rw [G4 hZ k3 k4]; exact k4
 ·rw [oW] at h2 ⊢
  rw [hrows]
  have qZ : j - 1 < Z.length := by omega
  have g1 : (j9 rs Z).getD (j - 1) [] = rs.getD Z[j - 1] [] := by simp [j9, List.getD_eq_getElem?_getD, qZ]
  have g2 : (j9 rs Z).getD j [] = rs.getD Z[j] [] := by simp [j9, List.getD_eq_getElem?_getD, h2]
  have g3 : (ki zs Z).getD (j - 1) 0 = zs.getD Z[j - 1] 0 := by simp [ki, List.getD_eq_getElem?_getD, qZ]
  have g4 : (ki zs Z).getD j 0 = zs.getD Z[j] 0 := by simp [ki, List.getD_eq_getElem?_getD, h2]
  unfold eV
  rw [g1, g2, g3, g4]
  have hx : Lx (dQ s rs) Z[j - 1] Z[j] := (List.pairwise_iff_getElem.1 hZ.lx) (j - 1) j qZ h2 (by omega)
  have hz1 := hZ.lt _ (List.getElem_mem qZ)
  have hz2 := hZ.lt _ (List.getElem_mem h2)
  have hup := List.pairwise_iff_getElem.1 (ul k4)
  unfold Lx dQ at hx
  refine ⟨by omega, fun h0 => ?_⟩
  rcases hx with hx | ⟨_, hx⟩
  ·omega
  ·have := hup Z[j - 1] Z[j] (by omega) (by omega) hx
   simpa [List.getD_eq_getElem?_getD, (by omega : Z[j - 1] < zs.length), (by omega : Z[j] < zs.length)] using this
end
theorem iW.numsA {d : DV} {ws : List Int} {xs : List DV} (h : iW 1 d xs) (hx : xs = ws.map intD) : qR d ws := by
 rcases h with ⟨rfl, h0⟩ | rfl
 ·left
  refine ⟨rfl, ?_⟩
  rw [h0] at hx
  exact List.map_eq_nil_iff.1 hx.symm
 ·right; rw [hx]
theorem iW.vw {sz : Nat} {d : DV} {xs : List DV} (h : iW sz d xs) (g : Zb) : vw g sz d = some xs := by
 rcases h with ⟨rfl, rfl⟩ | rfl
 ·rfl
 ·simp [Go.Proofs.YtmbgfbomgbdjeaaGreatDoor.vw]
theorem iW.one {sz : Nat} {d : DV} {xs : List DV} (h : iW sz d xs) : d.one = true := by
 rcases h with ⟨rfl, rfl⟩ | rfl <;> rfl
theorem MU (zs : List Int) (Z : List Nat) : (Z.map fun z => intD (zs.getD z 0)) = (ki zs Z).map intD := by simp [ki]
def pD : Sch := ⟨[⟨⟨#[107]⟩, 1, false⟩, ⟨⟨#[118]⟩, 2, true⟩], -1, -1, -1, 0⟩
def LK : V := ⟨1, 7, ⟨#[]⟩, false⟩
def Rw : V := ⟨1, 3, ⟨#[]⟩, false⟩
def tK : List (List V) := [[LK, v0], [Rw, v0], [LK, v0]]
theorem KL : ey pD tK = true := by decide
theorem KI : nj 0 9 [2, 4, 6] := by
 intro j hj x hx
 match j, hj with
 | 0, _ => simp at hx; subst hx; simp
 | 1, _ => simp at hx; subst hx; simp
 | 2, _ => simp at hx; subst hx; simp
theorem KJ : OrdZ pD tK [1, 0, 2] := by
 refine ⟨by decide, ?_⟩
 have h1 : dQ pD tK 1 0 < 0 := by decide
 have h2 : dQ pD tK 1 2 < 0 := by decide
 have h3 : dQ pD tK 0 2 = 0 := by decide
 simp [Lx, h1, h2, h3]
def vT : DV := .list 3 (pD.cols.map Cl.d) true
theorem QL (H : Zb) : E X 31 [] H = some (.agg [vT, .int .i64 (-1), .int .i64 (-1), .int .i64 (-1), .int .i64 (-1)], H) := by
 unfold vT
 simp only [pD, List.map_cons, List.map_nil]
 have y1 : ∀ a b c d e f h, bw [.agg [.str a, .int .i64 b, .bool c], .agg [.str d, .int .i64 e, .bool f]] h = some ([.agg [.str a, .int .i64 b, .bool c], .agg [.str d, .int .i64 e, .bool f]], h) := fun _ _ _ _ _ _ _ => rfl
 have y2 : ∀ a b c, Wc 3 (.agg [.str a, .int .i64 b, .bool c]) := fun a b c => by simp [Wc, DV.cells, DV.one]
 have y3 : ∀ a b c, Nr (.agg [.str a, .int .i64 b, .bool c]) := fun a b c => .agg (fun x hx => by
  simp only [List.mem_cons, List.mem_nil_iff, or_false] at hx
  rcases hx with rfl | rfl | rfl
  ·exact .str _
  ·exact .int _ _
  ·exact .bool _)
 rw [Zv (X := X) _ PW _ rfl rfl]; unfold PW; exact rg (cg @y1 @y2 @y3)
set_option maxHeartbeats 1000000 in
theorem Td (H : Zb) : E X 9 [] H = some (.bool true, H) := by
 have ri := QL
 have aR : vT.one = true := rfl
 have Sr : ∀ g, vw g 3 vT = some (pD.cols.map Cl.d) := fun _ => rfl
 obtain ⟨ds, hds⟩ : ∃ ds, ds = tK.map fun r => DV.list 4 (r.map V.d) true := ⟨_, rfl⟩
 obtain ⟨HB, dc⟩ : ∃ HB, HB = H ++ [HO.box 24 [vT, .int .i64 (-1), .int .i64 (-1), .int .i64 (-1), .int .i64 0]] := ⟨_, rfl⟩
 have hE : cF HB ds tK := by
  refine ⟨by rw [hds]; simp, fun i d vs h1 h2 => ?_⟩
  rw [hds, List.getElem?_map, h2] at h1
  injection h1 with h1
  subst h1
  exact ⟨fun _ => rfl, rfl⟩
 have hok : Du pD 0 1 0 9 tK [2, 4, 6] := ⟨by decide, KL, rfl, KI⟩
 obtain ⟨O', C', R', Z, cs, SV, hZ, hC, l1, l2, l3⟩ := QW (H := HB) (Cd := vT) (A := .list 1 ds true) (O := .list 1 ([2, 4, 6].map intD) true) (Of := .nils) (Cs := .nils) (s := pD) (p1 := 0) (p2 := 1) (p3 := 0) (p4 := 9) (ds := ds) (rs := tK) (zs := [2, 4, 6]) Sr aR (by decide) rfl (fun _ => rfl) hE (by decide) (fun _ => rfl) hok
 obtain rfl : Z = [1, 0, 2] := hZ.uniq KJ
 have hoff : ki [2, 4, 6] [1, 0, 2] = [4, 2, 6] := rfl
 rw [MU, hoff] at l2
 have hmay := FY hok hZ hC (by decide)
 rw [hoff] at hmay
 have HQ : ∀ c ∈ cs, c.Ok := fun c hc => by
  obtain ⟨k, hk, rfl⟩ := List.mem_iff_getElem.1 hc
  exact (hC.col k _ (List.getElem?_eq_getElem hk)).ok (by rw [qM]; decide)
 have hcl : cs.length = 2 := hC.len
 have Kq : ∀ g, E X 26 [Yl vT pD, .agg [.int .i64 0, .int .i64 1, .int .i64 0, .int .i64 9, O', C']] g = some (.bool true, g) := fun g => by
  obtain ⟨r, h1, h2⟩ := DZ (H := g) (Cd := vT) (Of := O') (Cs := C') (s := pD) (p1 := 0) (p2 := 1) (p3 := 0) (p4 := 9) (zs := [4, 2, 6]) (cs := cs) Sr (by decide) (l2.numsA rfl) l3.vw HQ (by decide) (by omega) aR
  rw [h1, h2.2 hmay]
 obtain ⟨HC, js⟩ : ∃ HC, HC = HB ++ [HO.box 28 [.int .i64 0, .int .i64 1, .int .i64 0, .int .i64 9, O', C']] := ⟨_, rfl⟩
 obtain ⟨A, G, ds2, BV, hA⟩ := JJ (H := HC) (p1 := 0) (p2 := 1) (p3 := 0) (p4 := 9) l2.vw l3.vw HQ (by decide) (by omega) hmay.all (by omega)
 have bq : ds2.length = 3 := by rw [hA.rows.1]; simp [fu]
 have BL : vw (HC ++ G) 1 A = some ds2 := by have := hA.v []; rwa [List.append_nil] at this
 have Ao := fun g => Cr (h := g) (A := R') (B := .list 1 [.int .i64 1, .int .i64 0, .int .i64 2] true) (xs := [1, 0, 2]) (ys := [1, 0, 2]) (l1.vw g) rfl (by decide)
 have Iq := fun g => Cr (h := g) (A := O') (B := .list 1 [.int .i64 4, .int .i64 2, .int .i64 6] true) (xs := [4, 2, 6]) (ys := [4, 2, 6]) (l2.vw g) rfl (by decide)
 have o1 := l2.one
 have o2 := l3.one
 have o3 := l1.one
 have aA : fin H (HC ++ G) [.bool true] = (.bool true, H) := by
  have : (HC ++ G).take H.length = H := by rw [js, dc, List.append_assoc, List.append_assoc]; exact List.take_left
  simp [fin, this, aH, aJ]
 simp only [decide_true] at Ao Iq
 have hsh : (A = .list 1 ds2 false ∧ G = []) ∨ ∃ o, A = .row o 0 0 ds2.length false := by
  rcases hA.sh with ⟨h1, h2, _⟩ | ⟨o, h1, _⟩
  ·exact .inl ⟨h1, h2⟩
  ·exact .inr ⟨o, h1⟩
 clear hA hmay HQ hC hZ l1 l2 l3 hE hok hcl
 subst hds
 subst js
 subst dc
 simp only [Yl, Yi, pD, tK, List.map_cons, List.map_nil, LK, Rw, v0, V.d, List.append_assoc, List.cons_append, List.nil_append] at *
 generalize vT = Cd at *
 have y1 : ∀ (a b a' b' : Int) c d c' d' h, bw [.agg [.int .i64 a, .int .i64 b, .str c, .bool d], .agg [.int .i64 a', .int .i64 b', .str c', .bool d']] h = some ([.agg [.int .i64 a, .int .i64 b, .str c, .bool d], .agg [.int .i64 a', .int .i64 b', .str c', .bool d']], h) := fun _ _ _ _ _ _ _ _ _ => rfl
 have y2 : ∀ (a b : Int) c d, Wc 4 (.agg [.int .i64 a, .int .i64 b, .str c, .bool d]) := fun a b c d => by simp [Wc, DV.cells, DV.one]
 have y3 : ∀ (a b : Int) c d, Nr (.agg [.int .i64 a, .int .i64 b, .str c, .bool d]) := fun a b c d => V.nr ⟨a, b, c, d⟩
 have y4 : ∀ l1 l2 l3 h, bw [.list 4 l1 true, .list 4 l2 true, .list 4 l3 true] h = some ([.list 4 l1 true, .list 4 l2 true, .list 4 l3 true], h) := fun _ _ _ _ => rfl
 have y5 : ∀ l, Wc 1 (.list 4 l true) := fun l => by simp [Wc, DV.cells, DV.one]
 have y6 : ∀ (a b a' b' : Int) c d c' d', Nr (.list 4 [.agg [.int .i64 a, .int .i64 b, .str c, .bool d], .agg [.int .i64 a', .int .i64 b', .str c', .bool d']] true) := fun a b a' b' c d c' d' => .list (fun x hx => by
  simp only [List.mem_cons, List.mem_nil_iff, or_false] at hx
  rcases hx with rfl | rfl
  ·exact y3 _ _ _ _
  ·exact y3 _ _ _ _)
 have y7 : ∀ (a b c : Int) h, bw [.int .i64 a, .int .i64 b, .int .i64 c] h = some ([.int .i64 a, .int .i64 b, .int .i64 c], h) := fun _ _ _ _ => rfl
 have y8 : ∀ (a : Int), Wc 1 (.int .i64 a) := fun a => by simp [Wc, DV.cells, DV.one]
 have y9 : ∀ (a : Int), Nr (.int .i64 a) := fun a => .int _ _
 rcases hsh with ⟨rfl, rfl⟩ | ⟨o, rfl⟩
 ·try simp only [List.append_nil] at BV BL aA
  rw [Zv (X := X) _ b9 _ rfl rfl]; unfold b9
  refine Yx (Af @ri @aR @y1 @y2 @y3 @y4 @y5 @y6 @y7 @y8 @y9 @SV @o1 @o2 @o3 @Ao @Iq @Kq @BV @BL @bq) ?_
  exact re @aA
 ·rw [bq] at BV BL
  rw [Zv (X := X) _ b9 _ rfl rfl]; unfold b9
  refine Yx (Af @ri @aR @y1 @y2 @y3 @y4 @y5 @y6 @y7 @y8 @y9 @SV @o1 @o2 @o3 @Ao @Iq @Kq @BV @BL @bq) ?_
  exact re @aA
structure Rc where
 d : DV
 vs : List V
 off : Int
def Rc.r (x : Rc) : DV := .agg [x.d, .int .i64 x.off]
structure RecL (L : DV) (xs : List Rc) : Prop where
 v : ∀ g, vw g 2 L = some (xs.map Rc.r)
 row : ∀ x ∈ xs, e8 x.d x.vs
def P9 (N T sz : Nat) (h : Zb) (d : DV) (xs : List DV) : Prop := (d = .nils ∧ xs = []) ∨ ∃ g o, d = .row o g 0 xs.length false ∧ N ≤ o ∧ h[o]? = some (.row T sz g xs)
theorem P9.is {N T sz : Nat} {h : Zb} {d : DV} {xs : List DV} (hr : P9 N T sz h d xs) : dI N T sz h d xs := by
 rcases hr with h1 | ⟨g, o, h1, h2, h3⟩
 ·exact .inl h1
 ·exact .inr ⟨g, o, h1, h2, .inl h3⟩
def Jh (a o : DV) : Prop := ∀ q g m q' g' m', a = .row q g 0 m false → o = .row q' g' 0 m' false → q ≠ q'
theorem Jh.symm {a o : DV} (h : Jh a o) : Jh o a := fun q g m q' g' m' h1 h2 e => h q' g' m' q g m h2 h1 e.symm
theorem e8.nr {d : DV} {vs : List V} (h : e8 d vs) : Nr d := by
 rcases h with rfl | ⟨rfl, _⟩
 ·exact .list (jX _)
 ·exact .nils
theorem Np {h : Zb} {Cd d : DV} {s : Sch} {vs : List V} {b : Nat} (hC : ∀ g, vw g 3 Cd = some (s.cols.map Cl.d)) (hd : vw h 4 d = some (vs.map V.d)) (hb : h[b]? = some (.box 24 (Yi Cd s))) (hl : vs.length = s.cols.length) (hcl : s.cols.length ≤ 1000) :
 ∀ (q i : Nat), vs.length - i ≤ q → i ≤ vs.length → (iC (s.cols.drop i) (vs.drop i) = true ∧ ∃ ex, C X (.loop eK) [(1, d), (2, .ref b 0), (6, .int .i64 i)] h = some (.exit 0, ex, h)) ∨ (iC (s.cols.drop i) (vs.drop i) = false ∧ C X (.loop eK) [(1, d), (2, .ref b 0), (6, .int .i64 i)] h = some (.ret, [(4, .bool false)], h)) := by
 intro q
 induction q with
 | zero =>
  intro i hq hi
  obtain rfl : i = vs.length := by omega
  left
  refine ⟨by rw [List.drop_length]; cases (s.cols.drop vs.length) <;> rfl, ?_⟩
  rw [Zc]
  unfold eK
  refine rn @hd ?_
  rw [Zx]
  exact ⟨_, rfl⟩
 | succ q ih =>
  intro i hq hi
  by_cases c : i < vs.length
  case neg => exact ih i (by omega) hi
  have c' : (i : Int) < (vs.length : Int) := by omega
  obtain ⟨I, hI⟩ : ∃ I, I = i + 1 := ⟨_, rfl⟩
  have z1 : IntKind.i64.wrap ((i : Int) + 1) = (I : Int) := wr
  have c2 : i < s.cols.length := by omega
  obtain ⟨x, hx⟩ : ∃ x, x = s.cols[i] := ⟨_, rfl⟩
  have bN : s.cols[i]? = some x := by rw [hx]; exact List.getElem?_eq_getElem c2
  have hx' := hx.symm
  obtain ⟨v, hv⟩ : ∃ v, v = vs[i] := ⟨_, rfl⟩
  have fO : vs[i]? = some v := by rw [hv]; exact List.getElem?_eq_getElem c
  have hv' := hv.symm
  have aP : s.cols.drop i = x :: s.cols.drop I := by rw [List.drop_eq_getElem_cons c2, ← hx, hI]
  have dG : vs.drop i = v :: vs.drop I := by rw [List.drop_eq_getElem_cons c, ← hv, hI]
  rw [aP, dG, iC]
  have qm := JC v
  have bad : C X eK [(1, d), (2, .ref b 0), (6, .int .i64 i)] h = some (.ret, [(4, .bool false)], h) → iP x v = false → ((iP x v && iC (s.cols.drop I) (vs.drop I)) = true ∧ ∃ ex, C X (.loop eK) [(1, d), (2, .ref b 0), (6, .int .i64 i)] h = some (.exit 0, ex, h)) ∨ ((iP x v && iC (s.cols.drop I) (vs.drop I)) = false ∧ C X (.loop eK) [(1, d), (2, .ref b 0), (6, .int .i64 i)] h = some (.ret, [(4, .bool false)], h)) := fun hs hf => .inr ⟨by rw [hf]; rfl, by rw [Zc, hs, Yw]⟩
  have good : C X eK [(1, d), (2, .ref b 0), (6, .int .i64 i)] h = some (.norm, [(1, d), (2, .ref b 0), (6, .int .i64 I)], h) → iP x v = true → ((iP x v && iC (s.cols.drop I) (vs.drop I)) = true ∧ ∃ ex, C X (.loop eK) [(1, d), (2, .ref b 0), (6, .int .i64 i)] h = some (.exit 0, ex, h)) ∨ ((iP x v && iC (s.cols.drop I) (vs.drop I)) = false ∧ C X (.loop eK) [(1, d), (2, .ref b 0), (6, .int .i64 i)] h = some (.ret, [(4, .bool false)], h)) := fun hs hf => by
   rw [hf, Bool.true_and, Zc, hs, ZB]
   exact ih I (by omega) (by omega)
  clear ih hx hv aP dG
  obtain ⟨cols, k1, k2, k3, k4⟩ := s
  obtain ⟨nm, kd, nl⟩ := x
  obtain ⟨vk, vn, vs', vt⟩ := v
  simp only [Yi, Cl.d] at *
  cases hm : aF ⟨vk, vn, vs', vt⟩
  ·refine bad ?_ (by unfold iP; rw [hm]; simp)
   rw [hm] at qm
   clear bad good hm
   simp only [V.d] at *
   unfold eK
   by_cases n0 : vk = 0
   ·subst n0
    refine Yx (ja @c @c' @z1 @hC @hd @hb @bN @hx' @fO @hv' @c2 @hl @qm) ?_
    simp [Za, lk]
   ·have Ep : (vk == 0) = false := by simpa using n0
    refine Yx (mF @c @c' @z1 @hC @hd @hb @bN @hx' @fO @hv' @c2 @hl @qm @Ep) ?_
    simp [Za, lk]
  rw [hm] at qm
  by_cases n1 : vk = kd
  ·refine good ?_ (by unfold iP; rw [hm]; simp [n1])
   clear bad good hm
   simp only [V.d] at *
   unfold eK
   have Br : (vk != kd) = false := by simpa using n1
   by_cases n0 : vk = 0
   ·subst n0
    refine Yx (mF @c @c' @z1 @hC @hd @hb @bN @hx' @fO @hv' @c2 @hl @qm @Br) ?_
    simp [Za, lk]
   ·have Ep : (vk == 0) = false := by simpa using n0
    refine Yx (mE @c @c' @z1 @hC @hd @hb @bN @hx' @fO @hv' @c2 @hl @qm @Ep @Br) ?_
    simp [Za, lk]
  have Br : (vk != kd) = true := by simpa using n1
  by_cases n0 : vk = 0
  ·subst n0
   cases nl
   ·refine bad ?_ (by unfold iP; rw [hm]; simp [n1])
    clear bad good hm
    simp only [V.d] at *
    unfold eK
    refine Yx (mF @c @c' @z1 @hC @hd @hb @bN @hx' @fO @hv' @c2 @hl @qm @Br) ?_
    simp [Za, lk]
   ·refine good ?_ (by unfold iP; rw [hm]; simp [n1])
    clear bad good hm
    simp only [V.d] at *
    unfold eK
    refine Yx (mF @c @c' @z1 @hC @hd @hb @bN @hx' @fO @hv' @c2 @hl @qm @Br) ?_
    simp [Za, lk]
  ·have Ep : (vk == 0) = false := by simpa using n0
   refine bad ?_ (by unfold iP; rw [hm]; simp [n1, n0])
   clear bad good hm
   simp only [V.d] at *
   unfold eK
   refine Yx (mE @c @c' @z1 @hC @hd @hb @bN @hx' @fO @hv' @c2 @hl @qm @Ep @Br) ?_
   simp [Za, lk]
theorem QM {H : Zb} {Cd d : DV} {s : Sch} {vs : List V} (hC : ∀ g, vw g 3 Cd = some (s.cols.map Cl.d)) (hd : ∀ G, vw (H ++ G) 4 d = some (vs.map V.d)) (hl : s.cols.length ≤ 1000) : E X 30 [Yl Cd s, d] H = some (.bool (dX s vs), H) := by
 have gW := fun g => JD hC hl g
 have gC := hd [.box 24 (Yi Cd s)]
 unfold dX
 cases hm : cm s
 ·rw [hm] at gW
  obtain ⟨cols, k1, k2, k3, k4⟩ := s
  simp only [Yl, Yi] at *
  rw [Zv (X := X) _ AG _ rfl rfl]; unfold AG; exact d8 @gW
 rw [hm] at gW
 by_cases c1 : vs.length = s.cols.length
 case neg =>
  rw [decide_eq_false c1]
  have bM : ((vs.length : Int) != (s.cols.length : Int)) = true := by simp only [bne_iff_ne, ne_eq]; omega
  clear hm hd
  obtain ⟨cols, k1, k2, k3, k4⟩ := s
  simp only [Yl, Yi] at *
  rw [Zv (X := X) _ AG _ rfl rfl]; unfold AG; exact d8 (eP @gW @hC @gC @c1 @bM)
 rw [decide_eq_true c1, Bool.true_and, Bool.true_and]
 have bM : ((vs.length : Int) != (s.cols.length : Int)) = false := by rw [c1]; simp
 rcases Np (b := H.length) hC gC (by simp) c1 hl vs.length 0 (by omega) (by omega) with ⟨hf, ex, hc⟩ | ⟨hf, hc⟩
 all_goals
  rw [List.drop_zero, List.drop_zero] at hf
  rw [hf]
  rw [show ((0 : Nat) : Int) = 0 from rfl] at hc
  clear hm hd hf
  obtain ⟨cols, k1, k2, k3, k4⟩ := s
  simp only [Yl, Yi] at *
  rw [Zv (X := X) _ AG _ rfl rfl]; unfold AG
  refine Yx (eP @gW @hC @gC @c1 @bM) ?_
  refine Yy ?_
  rw [hc]
  refine rn trivial ?_
  simp [Zh, ZS, ZV, go_sem, fin, aJ, aH, bJ, dr, eG, gC]
theorem Nq {h : Zb} {Cd A : DV} {s : Sch} {ds : List DV} {rs : List (List V)} {b : Nat} (hC : ∀ g, vw g 3 Cd = some (s.cols.map Cl.d)) (hcl : s.cols.length ≤ 1000) (hb : h[b]? = some (.box 24 (Yi Cd s))) (hA : vw h 1 A = some ds) (hE : cF h ds rs) (hl : rs.length ≤ 1000) :
 ∀ (q i : Nat), rs.length - i ≤ q → i ≤ rs.length → ((∃ ex, C X (.loop lV) [(1, A), (2, .ref b 0), (6, .int .i64 i)] h = some (.exit 0, ex, h)) ∧ ∀ j r, i ≤ j → rs[j]? = some r → dX s r = true) ∨ (C X (.loop lV) [(1, A), (2, .ref b 0), (6, .int .i64 i)] h = some (.ret, [(4, .bool false)], h) ∧ ∃ r ∈ rs, dX s r = false) := by
 have bq := hE.1
 intro q
 induction q with
 | zero =>
  intro i hq hi
  obtain rfl : i = rs.length := by omega
  left
  refine ⟨?_, fun j r h1 h2 => by have := (List.getElem?_eq_some_iff.1 h2).1; omega⟩
  rw [Zc]
  unfold lV
  refine rn (aD @hA @bq) ?_
  rw [Zx]
  exact ⟨_, rfl⟩
 | succ q ih =>
  intro i hq hi
  by_cases c : i < rs.length
  case neg => exact ih i (by omega) hi
  have c' : (i : Int) < (rs.length : Int) := by omega
  obtain ⟨I, hI⟩ : ∃ I, I = i + 1 := ⟨_, rfl⟩
  have z1 : IntKind.i64.wrap ((i : Int) + 1) = (I : Int) := wr
  obtain ⟨r, hr⟩ : ∃ r, rs[i]? = some r := ⟨rs[i], List.getElem?_eq_getElem c⟩
  have ze : i < ds.length := by omega
  obtain ⟨e, he⟩ : ∃ e, ds[i]? = some e := ⟨ds[i], List.getElem?_eq_getElem ze⟩
  have he' : ds[i] = e := by rw [List.getElem?_eq_getElem ze] at he; injection he
  obtain ⟨e1, e2⟩ := hE.2 i e r he hr
  have kD := QM (H := h) hC e1 hcl
  have ec := gi e2
  unfold DV.cells at ec
  cases hf : dX s r
  ·right
   rw [hf] at kD
   refine ⟨?_, r, List.mem_of_getElem? hr, hf⟩
   have hs : C X lV [(1, A), (2, .ref b 0), (6, .int .i64 i)] h = some (.ret, [(4, .bool false)], h) := by
    clear ih hE e1 hf
    obtain ⟨cols, k1, k2, k3, k4⟩ := s
    simp only [Yl, Yi] at *
    unfold lV
    refine Yx (dR @c @c' @z1 @hA @bq @ze @he @he' @e2 @ec @hb @kD) ?_
    simp [Za, lk]
   rw [Zc, hs, Yw]
  ·rw [hf] at kD
   have hs : C X lV [(1, A), (2, .ref b 0), (6, .int .i64 i)] h = some (.norm, [(1, A), (2, .ref b 0), (6, .int .i64 I)], h) := by
    clear ih hE e1 hf
    obtain ⟨cols, k1, k2, k3, k4⟩ := s
    simp only [Yl, Yi] at *
    unfold lV
    refine Yx (dR @c @c' @z1 @hA @bq @ze @he @he' @e2 @ec @hb @kD) ?_
    simp [Za, lk]
   rw [Zc, hs, ZB]
   rcases ih I (by omega) (by omega) with ⟨h1, h2⟩ | h1
   ·refine .inl ⟨h1, fun j y h3 h4 => ?_⟩
    by_cases e : j = i
    ·subst e; rw [hr] at h4; injection h4 with h4; rw [← h4]; exact hf
    ·exact h2 j y (by omega) h4
   ·exact .inr h1
theorem Lz {s : Sch} {rs : List (List V)} (h1 : cm s = true) (h2 : ∀ r ∈ rs, dX s r = true) : ey s rs = true := by
 unfold ey
 simp only [Bool.and_eq_true, Bool.not_eq_true', List.any_eq_false]
 exact ⟨h1, fun r hr => by rw [h2 r hr]; simp⟩
theorem QN {H : Zb} {Cd A : DV} {s : Sch} {ds : List DV} {rs : List (List V)} (hC : ∀ g, vw g 3 Cd = some (s.cols.map Cl.d)) (hcl : s.cols.length ≤ 1000) (hA : ∀ G, vw (H ++ G) 1 A = some ds) (hE : cF H ds rs) (hl : rs.length ≤ 1000) : E X 28 [Yl Cd s, A] H = some (.bool (ey s rs), H) := by
 have gW := fun g => JD hC hcl g
 cases hm : cm s
 ·have : ey s rs = false := by unfold ey; rw [hm]; rfl
  rw [this]
  rw [hm] at gW
  clear this hm hE hA
  obtain ⟨cols, k1, k2, k3, k4⟩ := s
  simp only [Yl, Yi] at *
  rw [Zv (X := X) _ qu _ rfl rfl]; unfold qu; exact d8 @gW
 rw [hm] at gW
 rcases Nq (h := H ++ [.box 24 (Yi Cd s)]) (b := H.length) hC hcl (by simp) (hA _) (hE.ext _) hl rs.length 0 (by omega) (by omega) with ⟨⟨ex, hc⟩, hok⟩ | ⟨hc, r, hr, hf⟩
 ·rw [Lz hm (fun r hr => by
   obtain ⟨j, hj, rfl⟩ := List.mem_iff_getElem.1 hr
   exact hok j _ (Nat.zero_le _) (List.getElem?_eq_getElem hj))]
  rw [show ((0 : Nat) : Int) = 0 from rfl] at hc
  clear hm hE hA hok
  obtain ⟨cols, k1, k2, k3, k4⟩ := s
  simp only [Yl, Yi] at *
  rw [Zv (X := X) _ qu _ rfl rfl]; unfold qu
  refine Yx @gW ?_
  refine Yy ?_
  rw [hc]
  refine rn trivial ?_
  exact re trivial
 ·have : ey s rs = false := by
   cases h : ey s rs
   ·rfl
   ·have := (j6 h).2 r hr
    rw [hf] at this; cases this
  rw [this]
  rw [show ((0 : Nat) : Int) = 0 from rfl] at hc
  clear this hm hE hA hf hr
  obtain ⟨cols, k1, k2, k3, k4⟩ := s
  simp only [Yl, Yi] at *
  rw [Zv (X := X) _ qu _ rfl rfl]; unfold qu
  refine Yx @gW ?_
  refine Yy ?_
  rw [hc]
  refine rn trivial ?_
  exact re trivial
structure TwinC (n : Nat) (az bs : List RC) : Prop where
 la : az.length = n
 lb : bs.length = n
 oa : ∀ c ∈ az, c.Ok
 ob : ∀ c ∈ bs, c.Ok
 eq : ∀ (k : Nat) (c d : RC), az[k]? = some c → bs[k]? = some d → c.n = d.n ∧ c.ys = d.ys ∧ c.bs = d.bs
theorem QK (p1 p2 p3 p4 : Int) (Of Cs : DV) (H : Zb) : E X 37 [.agg [.int .i64 p1, .int .i64 p2, .int .i64 p3, .int .i64 p4, Of, Cs]] H = some (.bool (bj p1 p2 p3 p4), H) := by
 by_cases c1 : 0 ≤ p1
 case neg =>
  rw [show bj p1 p2 p3 p4 = false by simp [bj, c1]]
  rw [Zv (X := X) _ oK _ rfl rfl]; unfold oK; exact rg @c1
 by_cases c2 : p1 < 4
 case neg =>
  rw [show bj p1 p2 p3 p4 = false by simp [bj, c1, c2]]
  rw [Zv (X := X) _ oK _ rfl rfl]; unfold oK; exact rg (aD @c1 @c2)
 by_cases c3 : 1 ≤ p2
 case neg =>
  rw [show bj p1 p2 p3 p4 = false by simp [bj, c1, c2, c3]]
  rw [Zv (X := X) _ oK _ rfl rfl]; unfold oK; exact rg (cg @c1 @c2 @c3)
 by_cases c4 : p2 ≤ 1073741824
 case neg =>
  rw [show bj p1 p2 p3 p4 = false by simp [bj, c1, c2, c3, c4]]
  rw [Zv (X := X) _ oK _ rfl rfl]; unfold oK; exact rg (df @c1 @c2 @c3 @c4)
 by_cases c5 : 0 ≤ p3
 case neg =>
  rw [show bj p1 p2 p3 p4 = false by simp [bj, c1, c2, c3, c4, c5]]
  rw [Zv (X := X) _ oK _ rfl rfl]; unfold oK; exact rg (eP @c1 @c2 @c3 @c4 @c5)
 by_cases c6 : p3 ≤ p4
 case neg =>
  rw [show bj p1 p2 p3 p4 = false by simp [bj, c1, c2, c3, c4, c5, c6]]
  rw [Zv (X := X) _ oK _ rfl rfl]; unfold oK; exact rg (eO @c1 @c2 @c3 @c4 @c5 @c6)
 rw [show bj p1 p2 p3 p4 = decide (p4 ≤ 1099511627776) by simp [bj, c1, c2, c3, c4, c5, c6]]
 rw [Zv (X := X) _ oK _ rfl rfl]; unfold oK; exact rg (eO @c1 @c2 @c3 @c4 @c5 @c6)
theorem JF {H : Zb} {Cd d e : DV} {s : Sch} {a b : List V} (aR : Cd.one = true) (da : ∀ L, vw (H ++ L) 4 d = some (a.map V.d)) (d1 : d.one = true) (ea : ∀ L, vw (H ++ L) 4 e = some (b.map V.d)) (e1 : e.one = true) (ha : s.sort < a.length) (hb : s.sort < b.length) (sa : ∀ v ∈ a, Sm v) (sb : ∀ v ∈ b, Sm v) : E X 42 [Yl Cd s, d, e] H = some (.bool (decide (0 < fG s a b)), H) := by
 unfold fG
 have aP := gi d1
 have Vj := gi e1
 unfold DV.cells at aP Vj
 by_cases c1 : s.sort < 0
 ·rw [if_pos c1]
  have c2 : ¬ 0 ≤ s.sort := by omega
  obtain ⟨cols, k1, k2, k3, k4⟩ := s
  simp only [Yl, Yi] at *
  rw [Zv (X := X) _ Gh _ rfl rfl]; unfold Gh; exact rg (aD @c1 @c2)
 rw [if_neg c1]
 obtain ⟨j, hj⟩ : ∃ j : Nat, s.sort = (j : Int) := ⟨s.sort.toNat, by omega⟩
 have qY : j < a.length := by omega
 have hjb : j < b.length := by omega
 have SH := List.getElem?_eq_getElem qY
 have SG := List.getElem?_eq_getElem hjb
 rw [hj, Int.toNat_natCast, List.getD_eq_getElem?_getD, List.getD_eq_getElem?_getD, SH, SG, Option.getD_some, Option.getD_some]
 have mP := fun g => JI a[j] b[j] (sa _ (List.getElem_mem qY)) (sb _ (List.getElem_mem hjb)) g
 obtain ⟨va, tX⟩ : ∃ va, va = a[j] := ⟨_, rfl⟩
 obtain ⟨vb, hvb⟩ : ∃ vb, vb = b[j] := ⟨_, rfl⟩
 have HF := tX.symm
 have HE := hvb.symm
 rw [← tX, ← hvb] at mP
 rw [← tX, ← hvb]
 have dB := da [.box 24 [Cd, .int .i64 s.key, .int .i64 s.cmp, .int .i64 s.del, .int .i64 s.sort]]
 have eB := ea [.box 24 [Cd, .int .i64 s.key, .int .i64 s.cmp, .int .i64 s.del, .int .i64 s.sort]]
 have k0 : (0 : Int) ≤ (j : Int) := by omega
 have UF : ¬ (j : Int) < 0 := by omega
 clear da ea tX hvb ha hb
 generalize ord va vb = r at *
 obtain ⟨cols, k1, k2, k3, k4⟩ := s
 obtain ⟨ak, an, as', at'⟩ := va
 obtain ⟨bk, bn, bs', V4⟩ := vb
 simp only [V.d, Yl, Yi] at *
 subst hj
 have hdn : d ≠ .nils := by
  rintro rfl
  have h1 : some ([] : List DV) = some (List.map V.d a) := dB
  injection h1 with h1
  have h2 := congrArg List.length h1
  rw [List.length_map, List.length_nil] at h2
  omega
 have E9 : e ≠ .nils := by
  rintro rfl
  have h1 : some ([] : List DV) = some (List.map V.d b) := eB
  injection h1 with h1
  have h2 := congrArg List.length h1
  rw [List.length_map, List.length_nil] at h2
  omega
 rcases jH dB with h | ⟨s1, l1, cc, rfl⟩ | ⟨o1, g1, Nz, n1, cc, rfl⟩
 ·exact absurd h hdn
 all_goals rcases jH eB with h | ⟨s2, l2, Pt, rfl⟩ | ⟨o2, g2, UD, n2, Pt, rfl⟩ <;> first | (exact absurd h E9) | (clear hdn E9; rw [Zv (X := X) _ Gh _ rfl rfl]; unfold Gh; exact d8 (cP @dB @eB @qY @hjb @HF @HE @SH @SG @mP @k0 @UF))
def AR (s : Sch) (rs : List (List V)) (i : Nat) (out : List Nat) : Prop := out.Perm (List.range i) ∧ out.Pairwise (Lx (dQ s rs))
theorem AR.len {s : Sch} {rs : List (List V)} {i : Nat} {out : List Nat} (h : AR s rs i out) : out.length = i := by rw [h.1.length_eq]; simp
theorem AR.step {s : Sch} {rs : List (List V)} {i p : Nat} {out : List Nat} (h : AR s rs i out) (hp : p ≤ out.length) (h1 : ∀ j z, p ≤ j → out[j]? = some z → 0 < dQ s rs z i) (h2 : p = 0 ∨ ∃ q, out[p - 1]? = some q ∧ dQ s rs q i ≤ 0) : AR s rs (i + 1) ((out.take p ++ [i]) ++ out.drop p) := by
 have BF := h.2
 refine ⟨?_, ?_⟩
 ·rw [List.range_succ]
  have e1 : ((out.take p ++ [i]) ++ out.drop p).Perm (i :: out) := by
   rw [List.append_assoc]
   refine List.perm_middle.trans ?_
   simp
  exact e1.trans ((List.Perm.cons i h.1).trans (List.perm_append_comm (l₁ := [i])))
 ·have hlt : ∀ z ∈ out, z < i := fun z hz => List.mem_range.1 (h.1.mem_iff.1 hz)
  have hx : ∀ x ∈ out.take p, Lx (dQ s rs) x i := fun x hx => by
   have bN := hlt x (List.mem_of_mem_take hx)
   obtain ⟨jx, hj, rfl⟩ := List.mem_iff_getElem.1 hx
   rw [List.length_take] at hj
   rcases h2 with h2 | ⟨q, hq, hc⟩
   ·omega
   ·obtain ⟨UW, hq2⟩ := List.getElem?_eq_some_iff.1 hq
    have U9 : jx < out.length := by omega
    have e1 : (out.take p)[jx]'(by rw [List.length_take]; omega) = out[jx] := List.getElem_take
    rw [e1] at bN ⊢
    have hle : dQ s rs out[jx] i ≤ 0 := by
     by_cases c : jx = p - 1
     ·subst c; rw [hq2]; exact hc
     ·have hl := List.pairwise_iff_getElem.1 BF jx (p - 1) U9 UW (by omega)
      rw [hq2] at hl
      refine qy s rs _ q _ ?_ hc
      rcases hl with hl | hl <;> omega
    rcases Int.lt_or_eq_of_le hle with c | c
    ·exact .inl c
    ·exact .inr ⟨c, bN⟩
  have hy : ∀ y ∈ out.drop p, Lx (dQ s rs) i y := fun y hy => by
   obtain ⟨j, hj⟩ := List.mem_iff_getElem?.1 hy
   rw [List.getElem?_drop] at hj
   exact .inl ((lA s rs y i).2 (h1 (p + j) y (by omega) hj))
  have CO := BF
  rw [← List.take_append_drop p out, List.pairwise_append] at CO
  rw [List.pairwise_append, List.pairwise_append]
  refine ⟨⟨CO.1, List.pairwise_singleton _ _, fun x hx' y hy' => by rw [List.mem_singleton.1 hy']; exact hx x hx'⟩, CO.2.1, fun x hx' y hy' => ?_⟩
  rcases List.mem_append.1 hx' with h' | h'
  ·exact CO.2.2 x h' y hy'
  ·rw [List.mem_singleton.1 h']; exact hy y hy'
theorem aN.slc {T sz : Nat} {H h : Zb} {d : DV} {xs : List DV} (hg : aN T sz H h d xs) {l m : Nat} (hl : l ≤ m) (hm : m ≤ xs.length) : ∃ S, (∀ h', gL h' d l m xs.length false = some (S, h')) ∧ ∀ h' : Zb, h'.take h.length = h → aK h' sz S = some ((xs.take m).drop l) := by
 rcases hg.2 with ⟨rfl, rfl⟩ | ⟨g, o, rfl, h2, h3⟩
 ·refine ⟨.nils, fun _ => rfl, fun h' _ => ?_⟩
  simp [aK, Go.Proofs.YtmbgfbomgbdjeaaGreatDoor.vw]
 ·refine ⟨.row o g (0 + l) (m - l) (false || (false && decide (m = xs.length))), fun h' => ?_, fun h' hh => ?_⟩
  ·simp [gL]
  ·have h4 := fe hh h3
   rw [List.drop_take]
   simp only [aK, Go.Proofs.YtmbgfbomgbdjeaaGreatDoor.vw, h4, Nat.zero_add]
   rw [if_pos (by simp; omega)]
theorem uK : ∀ (ys ls : List V), Up ys → (∀ x ∈ ys, x ∈ ls) → ys.length ≤ ls.length
 | [], _, _, _ => by simp
 | y :: ys, ls, hu, hs => by
  have hp := List.pairwise_cons.1 hu
  obtain ⟨l1, l2, rfl⟩ := List.append_of_mem (hs y (by simp))
  have := uK ys (l1 ++ l2) hp.2 (fun x hx => by
   have h1 := hs x (by simp [hx])
   have h2 := hp.1 x hx
   have h3 : x ≠ y := fun e => by subst e; exact iI x h2
   simp only [List.mem_append, List.mem_cons] at h1 ⊢
   rcases h1 with h1 | h1 | h1
   ·exact .inl h1
   ·exact absurd h1 h3
   ·exact .inr h1)
  simp only [List.length_append, List.length_cons] at this ⊢
  omega
structure BuiltR (ls : List V) (c : RC) : Prop where
 n : c.n = (ls.length : Int)
 bs : c.bs = pack (ls.map (place c.ys)) (wC c.ys.length)
 up : Up c.ys
 mem : ∀ x, x ∈ c.ys ↔ x ∈ ls
 may : ∀ x ∈ ls, aF x = true
 D : c.D = .list 4 (c.ys.map V.d) false
 B : bK c.B c.bs
theorem BuiltR.toC {ls : List V} {c : RC} (h : BuiltR ls c) : BuiltC ls ⟨c.n, c.ys, c.bs, c.D, .list 1 (c.bs.map bD) false⟩ :=
 ⟨h.n, h.bs, h.up, h.mem, uK _ _ h.up (fun x hx => (h.mem x).1 hx), h.may, .inl h.D, rfl⟩
theorem BuiltR.ok {ls : List V} {c : RC} (h : BuiltR ls c) (hl : ls.length ≤ 200) : c.Ok := by
 have o := h.toC.ok hl
 exact ⟨o.dict, o.yl, o.sm, h.B, o.bb, o.bl⟩
theorem BuiltR.nr {ls : List V} {c : RC} (h : BuiltR ls c) : Nr c.d := by
 unfold RC.d
 refine .agg fun x hx => ?_
 simp only [List.mem_cons, List.mem_nil_iff, or_false] at hx
 rcases hx with rfl | rfl | rfl
 ·exact .int _ _
 ·rw [h.D]; exact .list (jX _)
 ·rcases h.B with ⟨h1, _⟩ | h1 <;> rw [h1]
  ·exact .nils
  ·refine .list fun x hx => ?_
   obtain ⟨y, _, rfl⟩ := List.mem_map.1 hx
   exact .int _ _
structure BldR (s : Sch) (rs : List (List V)) (Z : List Nat) (cs : List RC) : Prop where
 len : cs.length = s.cols.length
 col : ∀ k c, cs[k]? = some c → BuiltR (dU rs Z k) c
noncomputable def ez (c : RC) : List V := fM c.n c.ys c.bs
noncomputable def eY (cs : List RC) (i : Nat) : List V := cs.map fun c => (ez c).getD i v0
def pA (cs : List RC) (i : Nat) : Prop := ∀ c ∈ cs, i < (ez c).length
open Classical in
noncomputable def fF (cs : List RC) (i : Nat) : List V := if pA cs i then eY cs i else []
theorem Kz {c : RC} (h : ¬ okC c.n c.ys c.bs) : ez c = [] := by unfold ez fM; rw [if_neg h]
open Classical in
theorem Mb {c : RC} (hc : c.Ok) {i : Nat} (h : (ez c).length ≤ i) (H : Zb) : E X 44 [.agg [.int .i64 c.n, c.D, c.B], .int .i64 i] H = some (.tup [.agg [.int .i64 0, .int .i64 0, .str ⟨#[]⟩, .bool false], .bool false], H) := by
 have d0 : ¬ (i : Int) < 0 := by omega
 by_cases hN : c.n ≤ (i : Int)
 ·rw [Zv (X := X) _ AF _ rfl rfl]; unfold AF; exact rg (aD @d0 @hN)
 ·have hno : ¬ okC c.n c.ys c.bs := fun hok => by
   unfold ez at h
   rw [wD hok] at h
   have := hok.1
   omega
  have kC : ∀ g, E X 69 [.agg [.int .i64 c.n, c.D, c.B]] g = some (.bool false, g) := fun g => by
   have := DU (n := c.n) hc.dict (by have := hc.yl; omega) hc.bytes hc.bb g
   rw [decide_eq_false hno] at this
   exact this
  have oF := hc.dict.one
  have fQ := hc.bytes.one'
  obtain ⟨cn, cy, cb, cD, cB⟩ := c
  simp only at *
  clear h hno hc
  rw [Zv (X := X) _ AF _ rfl rfl]; unfold AF; exact d8 (eP @d0 @hN @kC @oF @fQ)
theorem Ma {c : RC} (hc : c.Ok) {i : Nat} (h : i < (ez c).length) (H : Zb) : E X 44 [.agg [.int .i64 c.n, c.D, c.B], .int .i64 i] H = some (.tup [((ez c).getD i v0).d, .bool true], H) := by
 have hok : okC c.n c.ys c.bs := Classical.byContradiction fun hno => by rw [Kz hno] at h; simp at h
 obtain ⟨hn, hC⟩ := hok.col hc.dict (by have := hc.yl; omega) hc.bytes hc.bb
 have hv : ez c = dZ c.ys (bL c.bs (wC c.ys.length) c.n.toNat) := by unfold ez fM; rw [if_pos hok]
 rw [hv] at h ⊢
 unfold dZ at h ⊢
 rw [List.length_map] at h
 have hp := List.getElem?_eq_getElem h
 have hpl := (hC.mem _).1 (List.getElem_mem h)
 have xL := List.getElem?_eq_getElem hpl
 have e := QH hC hp xL H
 rw [← hn] at e
 rw [List.getD_eq_getElem?_getD, List.getElem?_map, hp]
 simp only [Option.map_some, Option.getD_some]
 rw [List.getD_eq_getElem?_getD, xL]
 exact e
theorem uM {H H1 h : Zb} (ht : h.take H1.length = H1) (ht1 : H1.take H.length = H) : h.take H.length = H := by
 have hl := eI ht1
 have h5 : h.take H.length = (h.take H1.length).take H.length := by rw [List.take_take, Nat.min_eq_left hl]
 rw [h5, ht, ht1]
theorem BO {H h : Zb} (ht : h.take H.length = H) : fin H h [.nils] = (.nils, H) := by simp [fin, ht, aH, aJ]
theorem K6 {Hb : Zb} {Cs : DV} {cs : List RC} {i : Nat} (hC : ∀ g, vw g 3 Cs = some (cs.map RC.d)) (hok : ∀ c ∈ cs, c.Ok) (hcl : cs.length ≤ 12) :
 ∀ (q k : Nat) (h : Zb) (o : DV), cs.length - k ≤ q → k ≤ cs.length → pA (cs.take k) i → aN 56 4 Hb h o ((eY (cs.take k) i).map V.d) → (pA cs i ∧ ∃ ex h' o', C X (.loop lY) [(1, .int .i64 i), (5, o), (20, Cs), (21, .int .i64 cs.length), (22, .int .i64 k)] h = some (.exit 0, (1, .int .i64 i) :: (5, o') :: ex, h') ∧ aN 56 4 Hb h' o' ((eY cs i).map V.d)) ∨ (¬ pA cs i ∧ ∃ h', C X (.loop lY) [(1, .int .i64 i), (5, o), (20, Cs), (21, .int .i64 cs.length), (22, .int .i64 k)] h = some (.ret, [(4, .nils)], h') ∧ h'.take Hb.length = Hb) := by
 intro q
 induction q with
 | zero =>
  intro k h o hq hk hh hg
  obtain rfl : k = cs.length := by omega
  rw [List.take_length] at hg hh
  left
  refine ⟨hh, [(20, Cs), (21, .int .i64 cs.length), (22, .int .i64 cs.length), (23, .bool false)], h, o, ?_, hg⟩
  rw [Zc]
  unfold lY
  refine rn trivial ?_
  rw [Zx]
  simp [Za, lk]
 | succ q ih =>
  intro k h o hq hk hh hg
  by_cases c : k < cs.length
  case neg => exact ih k h o (by omega) hk hh hg
  obtain ⟨K, hK⟩ : ∃ K, K = k + 1 := ⟨_, rfl⟩
  have z1 : IntKind.i64.wrap ((k : Int) + 1) = (K : Int) := wr
  obtain ⟨x, hx⟩ : ∃ x, x = cs[k] := ⟨_, rfl⟩
  have tT : x ∈ cs := by rw [hx]; exact List.getElem_mem c
  have cT := hok x tT
  have hge : cs[k].d = .agg [.int .i64 x.n, x.D, x.B] := by rw [← hx]; rfl
  have oF := cT.dict.one
  have fQ := cT.bytes.one'
  by_cases hi : i < (ez x).length
  ·obtain ⟨v, l7⟩ : ∃ v, v = (ez x).getD i v0 := ⟨_, rfl⟩
   have vM := fun g => Ma cT hi g
   rw [← l7] at vM
   have e : (eY (cs.take K) i).map V.d = (eY (cs.take k) i).map V.d ++ [v.d] := by
    rw [hK, ← List.take_append_getElem c, ← hx, l7]
    simp [eY]
   have ax : ((eY (cs.take k) i).map V.d).length ≤ 12 := by simp [eY]; omega
   obtain ⟨G2, gE⟩ : ∃ G2 : Zb, G2 = [.box 70 [.int .i64 x.n, x.D, x.B], .box 56 [.int .i64 v.k, .int .i64 v.n, .str v.s, .bool v.t]] := ⟨_, rfl⟩
   obtain ⟨o2, h2, ha, hg2⟩ := (hg.ext G2).app 40 [v.d] (by simp only [List.length_cons, List.length_nil]; omega)
   rw [← e] at hg2
   have xV : pA (cs.take K) i := fun y hy => by
    rw [hK, ← List.take_append_getElem c, ← hx] at hy
    rcases List.mem_append.1 hy with h1 | h1
    ·exact hh y h1
    ·rw [List.mem_singleton.1 h1]; exact hi
   have cK := ih K h2 o2 (by omega) (by omega) xV hg2
   have hw := (hg.ext G2).vw
   have y1 : ∀ h, bw [v.d] h = some ([v.d], h) := fun _ => rfl
   have y2 : Wc 4 v.d := by simp [Wc, DV.cells, V.d, DV.one]
   have y3 : Nr v.d := v.nr
   have y4 : ∀ h, aK h 4 (.list 4 [v.d] true) = some [v.d] := fun _ => rfl
   have hs : C X lY [(1, .int .i64 i), (5, o), (20, Cs), (21, .int .i64 cs.length), (22, .int .i64 k)] h = some (.norm, [(1, .int .i64 i), (5, o2), (20, Cs), (21, .int .i64 cs.length), (22, .int .i64 K)], h2) := by
    clear ih cK hg hg2 e ax l7 hh xV cT hok hi
    generalize (eY (cs.take k) i).map V.d = cur at *
    subst gE
    obtain ⟨vk, vn, vs', vt⟩ := v
    simp only [V.d] at *
    unfold lY
    refine Yx (ja @c @z1 @hC @hge @oF @fQ @vM @y1 @y2 @y3 @y4 @hw @ha) ?_
    simp [Za, lk]
   rw [Zc, hs, ZB]
   exact cK
  ·right
   refine ⟨fun hall => hi (hall x tT), h ++ [.box 70 [.int .i64 x.n, x.D, x.B], .box 56 [.int .i64 0, .int .i64 0, .str ⟨#[]⟩, .bool false]], ?_, (hg.ext _).1⟩
   have vM := fun g => Mb cT (Nat.le_of_not_lt hi) g
   clear ih hg hh cT hok hi
   have hs : C X lY [(1, .int .i64 i), (5, o), (20, Cs), (21, .int .i64 cs.length), (22, .int .i64 k)] h = some (.ret, [(4, .nils)], h ++ [.box 70 [.int .i64 x.n, x.D, x.B], .box 56 [.int .i64 0, .int .i64 0, .str ⟨#[]⟩, .bool false]]) := by
    unfold lY
    refine Yx (fR @c @z1 @hC @hge @oF @fQ @vM) ?_
    simp [Za, lk]
   rw [Zc, hs, Yw]
open Classical in
noncomputable def nV (cs : List RC) (n : Nat) (i : Int) : List V := if 0 ≤ i ∧ i < (n : Int) then fF cs i.toNat else []
theorem D5 {H : Zb} {Of Cs : DV} {p1 p2 p3 p4 : Int} {os : List DV} {cs : List RC} (hO : ∀ g, vw g 1 Of = some os) (hC : ∀ g, vw g 3 Cs = some (cs.map RC.d)) (hok : ∀ c ∈ cs, c.Ok) (hcl : cs.length ≤ 12) (i : Int) :
 ∃ R, E X 21 [.agg [.int .i64 p1, .int .i64 p2, .int .i64 p3, .int .i64 p4, Of, Cs], .int .i64 i] H = some (R, H) ∧ sV R (nV cs os.length i) := by
 by_cases hi : 0 ≤ i ∧ i < (os.length : Int)
 case neg =>
  refine ⟨.nils, ?_, .inl ⟨rfl, by unfold nV; rw [if_neg hi]⟩⟩
  by_cases c0 : i < 0
  ·rw [Zv (X := X) _ wi _ rfl rfl]; unfold wi; exact rg @c0
  ·have c1 : (os.length : Int) ≤ i := by omega
   clear hi
   rw [Zv (X := X) _ wi _ rfl rfl]; unfold wi; exact d8 (cg @hO @c0 @c1)
 obtain ⟨j, hj⟩ : ∃ j : Nat, i = (j : Int) := ⟨i.toNat, by omega⟩
 subst hj
 have hX : nV cs os.length (j : Int) = fF cs j := by unfold nV; rw [if_pos hi, Int.toNat_natCast]
 rw [hX]
 have hi2 : j < os.length := by omega
 obtain ⟨H1, ay⟩ : ∃ H1, H1 = H ++ [HO.box 28 [.int .i64 p1, .int .i64 p2, .int .i64 p3, .int .i64 p4, Of, Cs]] := ⟨_, rfl⟩
 have ht1 : H1.take H.length = H := by rw [ay]; exact List.take_left
 have c0 : ¬ (j : Int) < 0 := by omega
 have c1 : ¬ (os.length : Int) ≤ (j : Int) := by omega
 have c2 : ¬ os.length ≤ j := by omega
 have wS : (cs.map RC.d).length = cs.length := List.length_map _
 rcases K6 (Hb := H1) (Cs := Cs) (cs := cs) (i := j) hC hok hcl cs.length 0 H1 .nils (by omega) (by omega) (fun c hc => by simp at hc) aN.zero with ⟨hh, ex, h', o', hc, hg⟩ | ⟨hh, h', hc, ht⟩
 ·rw [show ((0 : Nat) : Int) = 0 from rfl] at hc
  obtain ⟨R, hf, hR⟩ := (hg.base ht1).valD
  have hA : fF cs j = eY cs j := by unfold fF; rw [if_pos hh]
  rw [hA]
  refine ⟨R, ?_, hR⟩
  clear hg hR ht1 hok hX hi hh hA
  subst ay
  rw [Zv (X := X) _ wi _ rfl rfl]; unfold wi
  refine Yx (eO @hO @hC @wS @c0 @c1 @c2) ?_
  refine Yy ?_
  rw [hc]
  refine rn trivial ?_
  simp only [Zh, ZV, lk, Za, List.map_cons, List.map_nil, reduceIte, Option.map_some, Nat.reduceEqDiff, hf]
 ·rw [show ((0 : Nat) : Int) = 0 from rfl] at hc
  have hA : fF cs j = [] := by unfold fF; rw [if_neg hh]
  rw [hA]
  have hf := BO (uM ht ht1)
  refine ⟨.nils, ?_, .inl ⟨rfl, rfl⟩⟩
  clear ht ht1 hok hX hi hh hA
  subst ay
  rw [Zv (X := X) _ wi _ rfl rfl]; unfold wi
  refine Yx (eO @hO @hC @wS @c0 @c1 @c2) ?_
  refine Yy ?_
  rw [hc]
  refine rn trivial ?_
  simp only [Zh, ZV, lk, Za, List.map_cons, List.map_nil, reduceIte, Option.map_some, Nat.reduceEqDiff, hf]
theorem K5 {Hb : Zb} {Of Cs : DV} {p1 p2 p3 p4 : Int} {cs : List RC} {i b : Nat} (hC : ∀ g, vw g 3 Cs = some (cs.map RC.d)) (hok : ∀ c ∈ cs, c.Ok) (hcl : cs.length ≤ 12) (hb : Hb[b]? = some (.box 28 [.int .i64 p1, .int .i64 p2, .int .i64 p3, .int .i64 p4, Of, Cs])) :
 ∀ (m k : Nat) (h : Zb) (o : DV), cs.length - k ≤ m → k ≤ cs.length → pA (cs.take k) i → aN 56 4 Hb h o ((eY (cs.take k) i).map V.d) → (pA cs i ∧ ∃ ex h' o', C X (.loop jk) [(1, .int .i64 i), (2, .ref b 0), (5, o), (6, .int .i64 k)] h = some (.exit 0, (1, .int .i64 i) :: (2, .ref b 0) :: (5, o') :: ex, h') ∧ aN 56 4 Hb h' o' ((eY cs i).map V.d)) ∨ (¬ pA cs i ∧ ∃ h', C X (.loop jk) [(1, .int .i64 i), (2, .ref b 0), (5, o), (6, .int .i64 k)] h = some (.ret, [(4, .nils)], h') ∧ h'.take Hb.length = Hb) := by
 intro m
 induction m with
 | zero =>
  intro k h o hk qd hh hg
  obtain rfl : k = cs.length := by omega
  have hb' := fe hg.1 hb
  rw [List.take_length] at hg hh
  left
  refine ⟨hh, [(6, .int .i64 cs.length), (21, .bool false)], h, o, ?_, hg⟩
  rw [Zc]
  unfold jk
  refine Yx (aD @hC @hb') ?_
  rw [Zx]
  simp [Za, lk]
 | succ m ih =>
  intro k h o hk qd hh hg
  by_cases c : k < cs.length
  case neg => exact ih k h o (by omega) qd hh hg
  obtain ⟨K, hK⟩ : ∃ K, K = k + 1 := ⟨_, rfl⟩
  have z1 : IntKind.i64.wrap ((k : Int) + 1) = (K : Int) := wr
  obtain ⟨x, hx⟩ : ∃ x, x = cs[k] := ⟨_, rfl⟩
  have tT : x ∈ cs := by rw [hx]; exact List.getElem_mem c
  have cT := hok x tT
  have hge : cs[k].d = .agg [.int .i64 x.n, x.D, x.B] := by rw [← hx]; rfl
  have oF := cT.dict.one
  have fQ := cT.bytes.one'
  have hb' := fe hg.1 hb
  obtain ⟨d, Ao, hd⟩ := QG (H := h) (n := x.n) cT.dict cT.yl cT.sm cT.bytes cT.bb (by have := cT.bl; omega)
  change sV d (ez x) at hd
  by_cases hi : i < (ez x).length
  ·rcases hd with ⟨_, h0⟩ | rfl
   ·rw [h0] at hi; simp at hi
   obtain ⟨n, hn⟩ : ∃ n, n = (ez x).length := ⟨_, rfl⟩
   have hvl := hn.symm
   obtain ⟨v, hv⟩ : ∃ v, v = (ez x).getD i v0 := ⟨_, rfl⟩
   have fO : (ez x)[i]? = some v := by rw [hv, List.getD_eq_getElem?_getD, List.getElem?_eq_getElem hi]; rfl
   have oC := hg.ext [.row 56 4 0 ((ez x).map V.d)]
   have e : (eY (cs.take K) i).map V.d = (eY (cs.take k) i).map V.d ++ [v.d] := by
    unfold eY
    rw [hK, ← List.take_append_getElem c, ← hx, hv]
    simp only [List.map_append, List.map_cons, List.map_nil]
   have ax : ((eY (cs.take k) i).map V.d).length ≤ 12 := by unfold eY; simp; omega
   obtain ⟨o2, h2, ha, hg2⟩ := oC.app 40 [v.d] (by simp only [List.length_cons, List.length_nil]; omega)
   rw [← e] at hg2
   have xV : pA (cs.take K) i := fun y hy => by
    rw [hK, ← List.take_append_getElem c, ← hx] at hy
    rcases List.mem_append.1 hy with h1 | h1
    ·exact hh y h1
    ·rw [List.mem_singleton.1 h1]; exact hi
   have cK := ih K h2 o2 (by omega) (by omega) xV hg2
   have hw := oC.vw
   have sw : vw (h ++ [HO.row 56 4 0 ((ez x).map V.d)]) 4 (.row h.length 0 0 n false) = some ((ez x).map V.d) := wH (t := 56) (by simp) hvl
   have y1 : ∀ h, bw [v.d] h = some ([v.d], h) := fun _ => rfl
   have y2 : Wc 4 v.d := by simp [Wc, DV.cells, V.d, DV.one]
   have y3 : Nr v.d := v.nr
   have y4 : ∀ h, aK h 4 (.list 4 [v.d] true) = some [v.d] := fun _ => rfl
   have Ow : ((ez x).map V.d).length = n := by rw [List.length_map, hvl]
   have R6 : ((ez x).map V.d)[i]? = some v.d := by rw [List.getElem?_map, fO]; rfl
   obtain ⟨TY, TX⟩ := List.getElem?_eq_some_iff.1 R6
   have d1 : ¬ (n : Int) ≤ (i : Int) := by omega
   have d2 : ¬ n ≤ i := by omega
   have hi' : i < n := by omega
   have hs : C X jk [(1, .int .i64 i), (2, .ref b 0), (5, o), (6, .int .i64 k)] h = some (.norm, [(1, .int .i64 i), (2, .ref b 0), (5, o2), (6, .int .i64 K)], h2) := by
    clear ih cK hg hg2 oC e ax hb fO hv hh xV hok cT hi hn
    generalize (eY (cs.take k) i).map V.d = cur at *
    rw [← hvl] at *
    generalize (ez x).map V.d = VL at *
    rw [hvl] at *
    obtain ⟨vk, vn, vs', vt⟩ := v
    simp only [V.d] at *
    unfold jk
    refine Yx (sI @c @z1 @hC @hge @hb' @Ao @sw @Ow @R6 @TY @TX @d1 @d2 @hi' @y1 @y2 @y3 @y4 @hw @ha) ?_
    simp [Za, lk]
   rw [Zc, hs, ZB]
   exact cK
  ·right
   refine ⟨fun hall => hi (hall x tT), ?_⟩
   rcases hd with ⟨rfl, h0⟩ | rfl
   ·refine ⟨h, ?_, hg.1⟩
    have d0 : (0 : Int) ≤ (i : Int) := by omega
    have vn : ∀ h, vw h 4 .nils = some [] := fun _ => rfl
    have hs : C X jk [(1, .int .i64 i), (2, .ref b 0), (5, o), (6, .int .i64 k)] h = some (.ret, [(4, .nils)], h) := by
     clear ih hg hb hh hok cT hi
     unfold jk
     refine Yx (ga @c @z1 @hC @hge @hb' @Ao @vn @d0) ?_
     simp [Za, lk]
    rw [Zc, hs, Yw]
   ·refine ⟨h ++ [HO.row 56 4 0 ((ez x).map V.d)], ?_, (hg.ext _).1⟩
    have sw : vw (h ++ [HO.row 56 4 0 ((ez x).map V.d)]) 4 (.row h.length 0 0 (ez x).length false) = some ((ez x).map V.d) := wH (t := 56) (by simp) rfl
    have Ow : ((ez x).map V.d).length = (ez x).length := List.length_map _
    have d1 : ((ez x).length : Int) ≤ (i : Int) := by omega
    have d2 : (ez x).length ≤ i := by omega
    have hs : C X jk [(1, .int .i64 i), (2, .ref b 0), (5, o), (6, .int .i64 k)] h = some (.ret, [(4, .nils)], h ++ [HO.row 56 4 0 ((ez x).map V.d)]) := by
     clear ih hg hb hh hok cT hi
     unfold jk
     refine Yx (ei @c @z1 @hC @hge @hb' @Ao @sw @Ow @d1 @d2) ?_
     simp [Za, lk]
    rw [Zc, hs, Yw]
theorem D4 {H : Zb} {Of Cs : DV} {p1 p2 p3 p4 : Int} {os : List DV} {cs : List RC} (hO : ∀ g, vw g 1 Of = some os) (hC : ∀ g, vw g 3 Cs = some (cs.map RC.d)) (hok : ∀ c ∈ cs, c.Ok) (hcl : cs.length ≤ 12) (i : Int) :
 ∃ R, E X 22 [.agg [.int .i64 p1, .int .i64 p2, .int .i64 p3, .int .i64 p4, Of, Cs], .int .i64 i] H = some (R, H) ∧ sV R (nV cs os.length i) := by
 by_cases hi : 0 ≤ i ∧ i < (os.length : Int)
 case neg =>
  refine ⟨.nils, ?_, .inl ⟨rfl, by unfold nV; rw [if_neg hi]⟩⟩
  by_cases c0 : i < 0
  ·rw [Zv (X := X) _ wh _ rfl rfl]; unfold wh; exact rg @c0
  ·have c1 : (os.length : Int) ≤ i := by omega
   clear hi
   rw [Zv (X := X) _ wh _ rfl rfl]; unfold wh; exact d8 (cg @hO @c0 @c1)
 obtain ⟨j, hj⟩ : ∃ j : Nat, i = (j : Int) := ⟨i.toNat, by omega⟩
 subst hj
 have hX : nV cs os.length (j : Int) = fF cs j := by unfold nV; rw [if_pos hi, Int.toNat_natCast]
 rw [hX]
 have hi2 : j < os.length := by omega
 obtain ⟨H1, ay⟩ : ∃ H1, H1 = H ++ [HO.box 28 [.int .i64 p1, .int .i64 p2, .int .i64 p3, .int .i64 p4, Of, Cs]] := ⟨_, rfl⟩
 have dH : H1[H.length]? = some (.box 28 [.int .i64 p1, .int .i64 p2, .int .i64 p3, .int .i64 p4, Of, Cs]) := by rw [ay]; simp
 have ht1 : H1.take H.length = H := by rw [ay]; exact List.take_left
 have d1 : ¬ (os.length : Int) ≤ (j : Int) := by omega
 have d2 : ¬ os.length ≤ j := by omega
 have d3 : ¬ (j : Int) < 0 := by omega
 rcases K5 (Hb := H1) (Cs := Cs) (cs := cs) (i := j) hC hok hcl dH cs.length 0 H1 .nils (by omega) (by omega) (fun c hc => by simp at hc) aN.zero with ⟨hh, ex, h', o', hc, hg⟩ | ⟨hh, h', hc, ht⟩
 ·rw [show ((0 : Nat) : Int) = 0 from rfl] at hc
  obtain ⟨R, hf, hR⟩ := (hg.base ht1).valD
  have hA : fF cs j = eY cs j := by unfold fF; rw [if_pos hh]
  rw [hA]
  refine ⟨R, ?_, hR⟩
  clear hg hR ht1 hok hX hi hh hA
  subst ay
  rw [Zv (X := X) _ wh _ rfl rfl]; unfold wh
  refine Yx (df @hO @d1 @d2 @d3) ?_
  refine Yy ?_
  rw [hc]
  refine rn trivial ?_
  simp only [Zh, ZV, lk, Za, List.map_cons, List.map_nil, reduceIte, Option.map_some, Nat.reduceEqDiff, hf]
 ·rw [show ((0 : Nat) : Int) = 0 from rfl] at hc
  have hA : fF cs j = [] := by unfold fF; rw [if_neg hh]
  rw [hA]
  have hf := BO (uM ht ht1)
  refine ⟨.nils, ?_, .inl ⟨rfl, rfl⟩⟩
  clear ht ht1 hok hX hi hh hA
  subst ay
  rw [Zv (X := X) _ wh _ rfl rfl]; unfold wh
  refine Yx (df @hO @d1 @d2 @d3) ?_
  refine Yy ?_
  rw [hc]
  refine rn trivial ?_
  simp only [Zh, ZV, lk, Za, List.map_cons, List.map_nil, reduceIte, Option.map_some, Nat.reduceEqDiff, hf]
noncomputable def cu (cs : List RC) (n : Nat) : List (List V) := (List.range n).map (fF cs)
theorem uT (cs : List RC) (i : Nat) : cu cs (i + 1) = cu cs i ++ [fF cs i] := by unfold cu; rw [List.range_succ, List.map_append]; rfl
theorem Bh {cs : List RC} {n i : Nat} (h : i < n) : nV cs n (i : Int) = fF cs i := by
 unfold nV
 rw [if_pos ⟨by omega, by omega⟩, Int.toNat_natCast]
theorem xw {cs : List RC} {n : Nat} (hm : ∀ c ∈ cs, c.May n) : cu cs n = fu (cs.map RC.sc) n := by
 unfold cu fu
 apply List.map_congr_left
 intro i hi
 rw [List.mem_range] at hi
 have hv : ∀ c ∈ cs, ez c = sZ c.sc n := fun c hc => (hm c hc).vals
 have hh : pA cs i := fun c hc => by rw [hv c hc]; simp [sZ]; exact hi
 unfold fF
 rw [if_pos hh]
 unfold eY Ct
 rw [List.map_map]
 apply List.map_congr_left
 intro c hc
 simp only [Function.comp]
 rw [hv c hc]
 unfold sZ
 rw [List.getD_eq_getElem?_getD]
 simp [hi]
theorem po.g {es : List DV} {rs : List (List V)} (h : po es rs) (H : Zb) : cF H es rs := ⟨h.1, fun i d vs h1 h2 => ⟨fun L => (h.2 i d vs h1 h2).vw _, by
 rcases h.2 i d vs h1 h2 with ⟨c, rfl⟩ | ⟨rfl, _⟩ <;> rfl⟩⟩
theorem K4 {Hb : Zb} {Of Cs : DV} {p1 p2 p3 p4 : Int} {os : List DV} {cs : List RC} {n b : Nat} (hO : ∀ g, vw g 1 Of = some os) (hos : os.length = n) (hC : ∀ g, vw g 3 Cs = some (cs.map RC.d)) (hok : ∀ c ∈ cs, c.Ok) (hcl : cs.length ≤ 12) (hn : n ≤ 200) (hb : Hb[b]? = some (.box 28 [.int .i64 p1, .int .i64 p2, .int .i64 p3, .int .i64 p4, Of, Cs])) :
 ∀ (m i : Nat) (h : Zb) (o : DV) (es : List DV), n - i ≤ m → i ≤ n → aN 45 1 Hb h o es → gR es (cu cs i) → ∃ ex h' o' es', C X (.loop lX) [(1, .ref b 0), (5, o), (22, .int .i64 n), (23, .int .i64 i)] h = some (.exit 0, (1, .ref b 0) :: (5, o') :: ex, h') ∧ aN 45 1 Hb h' o' es' ∧ gR es' (cu cs n) := by
 intro m
 induction m with
 | zero =>
  intro i h o es hk qd hg hE
  obtain rfl : i = n := by omega
  refine ⟨[(22, .int .i64 i), (23, .int .i64 i), (24, .bool false)], h, o, es, ?_, hg, hE⟩
  rw [Zc]
  unfold lX
  refine rn trivial ?_
  rw [Zx]
  simp [Za, lk]
 | succ m ih =>
  intro i h o es hk qd hg hE
  by_cases c : i < n
  ·obtain ⟨I, hI⟩ : ∃ I, I = i + 1 := ⟨_, rfl⟩
   have z1 : IntKind.i64.wrap ((i : Int) + 1) = (I : Int) := wr
   have c' : (i : Int) < (n : Int) := by omega
   have hb' := fe hg.1 hb
   obtain ⟨d, Al, hd⟩ := D5 (H := h) (p1 := p1) (p2 := p2) (p3 := p3) (p4 := p4) hO hC hok hcl (i : Int)
   rw [hos, Bh c] at hd
   have hrs : cu cs I = cu cs i ++ [fF cs i] := by rw [hI, uT]
   have hel : es.length ≤ 200 := by rw [hE.1.1]; unfold cu; simp; omega
   rcases hd with ⟨rfl, h0⟩ | rfl
   ·obtain ⟨o2, h2, ha, hg2⟩ := hg.app 24 [.nils] (by simp only [List.length_cons, List.length_nil]; omega)
    have mO : gR (es ++ [.nils]) (cu cs I) := by rw [hrs]; exact hE.snoc (.inr ⟨rfl, h0⟩)
    have cK := ih I h2 o2 _ (by omega) (by omega) hg2 mO
    have hw := hg.vw
    have y1 : ∀ h, bw [.nils] h = some ([.nils], h) := fun _ => rfl
    have y2 : Wc 1 .nils := by simp [Wc, DV.cells, DV.one]
    have y3 : Nr .nils := .nils
    have y4 : ∀ h, aK h 1 (.list 1 [.nils] true) = some [.nils] := fun _ => rfl
    have hs : C X lX [(1, .ref b 0), (5, o), (22, .int .i64 n), (23, .int .i64 i)] h = some (.norm, [(1, .ref b 0), (5, o2), (22, .int .i64 n), (23, .int .i64 I)], h2) := by
     clear ih cK hg hg2 hE mO hrs hb h0
     unfold lX
     refine Yx (ja @c @c' @z1 @hO @hos @hb' @Al @y1 @y2 @y3 @y4 @hw @ha) ?_
     simp [Za, lk]
    rw [Zc, hs, ZB]
    exact cK
   ·obtain ⟨r, hr⟩ : ∃ r, r = fF cs i := ⟨_, rfl⟩
    rw [← hr] at Al hrs
    have hge := hg.ext [.frz 56 4 0 (r.map V.d)]
    obtain ⟨o2, h2, ha, hg2⟩ := hge.app 24 [.list 4 (r.map V.d) false] (by simp only [List.length_cons, List.length_nil]; omega)
    have mO : gR (es ++ [.list 4 (r.map V.d) false]) (cu cs I) := by rw [hrs]; exact hE.snoc (.inl ⟨false, rfl⟩)
    have cK := ih I h2 o2 _ (by omega) (by omega) hg2 mO
    have hw := hge.vw
    have y1 : bw [.row h.length 0 0 (r.map V.d).length false] (h ++ [HO.row 56 4 0 (r.map V.d)]) = some ([.list 4 (r.map V.d) false], h ++ [HO.frz 56 4 0 (r.map V.d)]) := by
     have q1 : (h ++ [HO.row 56 4 0 (r.map V.d)])[h.length]? = some (.row 56 4 0 (r.map V.d)) := by simp
     have q2 : ∀ x ∈ r.map V.d, Nr x := jX r
     simp only [bw, pn, rH, q1]
     rw [if_pos ⟨rfl, by omega, q2⟩]
     simp only [List.drop_zero, List.take_length]
     simp [ZO]
    have y2 : Wc 1 (.list 4 (r.map V.d) false) := by simp [Wc, DV.cells, DV.one]
    have y3 : Nr (.list 4 (r.map V.d) false) := wI r
    have y4 : ∀ h, aK h 1 (.list 1 [.list 4 (r.map V.d) false] true) = some [.list 4 (r.map V.d) false] := fun _ => rfl
    have hs : C X lX [(1, .ref b 0), (5, o), (22, .int .i64 n), (23, .int .i64 i)] h = some (.norm, [(1, .ref b 0), (5, o2), (22, .int .i64 n), (23, .int .i64 I)], h2) := by
     clear ih cK hg hg2 hge hE mO hrs hb hr
     generalize r.map V.d = R at *
     unfold lX
     refine Yx (ja @c @c' @z1 @hO @hos @hb' @Al @y1 @y2 @y3 @y4 @hw @ha) ?_
     simp [Za, lk]
    rw [Zc, hs, ZB]
    exact cK
  ·exact ih i h o es (by omega) qd hg hE
def wm (d : DV) (es : List DV) : Prop := (d = .nils ∧ es = []) ∨ d = .fresh 45 1 es
theorem Mf {H : Zb} {Of Cs : DV} {p1 p2 p3 p4 : Int} {os : List DV} {cs : List RC} (hO : ∀ g, vw g 1 Of = some os) (hC : ∀ g, vw g 3 Cs = some (cs.map RC.d)) (hok : ∀ c ∈ cs, c.Ok) (hn : os.length ≤ 200) (hcl : cs.length ≤ 12) :
 (∃ A G ds, E X 24 [.agg [.int .i64 p1, .int .i64 p2, .int .i64 p3, .int .i64 p4, Of, Cs]] H = some (A, H ++ G) ∧ AOut H G A ds (cu cs os.length)) ∨ (∃ d es, E X 24 [.agg [.int .i64 p1, .int .i64 p2, .int .i64 p3, .int .i64 p4, Of, Cs]] H = some (d, H) ∧ po es (cu cs os.length) ∧ wm d es) := by
 by_cases hpos : 0 < cs.length ∧ ∀ c ∈ cs, c.n = (os.length : Int) ∧ okC c.n c.ys c.bs
 ·left
  obtain ⟨A, G, ds, e, hA⟩ := JJ (H := H) (p1 := p1) (p2 := p2) (p3 := p3) (p4 := p4) hO hC hok hn hcl hpos.2 hpos.1
  rw [← xw (fun c hc => ⟨hok c hc, (hpos.2 c hc).2, (hpos.2 c hc).1⟩)] at hA
  exact ⟨A, G, ds, e, hA⟩
 right
 obtain ⟨H1, ay⟩ : ∃ H1, H1 = H ++ [HO.box 28 [.int .i64 p1, .int .i64 p2, .int .i64 p3, .int .i64 p4, Of, Cs]] := ⟨_, rfl⟩
 have dH : H1[H.length]? = some (.box 28 [.int .i64 p1, .int .i64 p2, .int .i64 p3, .int .i64 p4, Of, Cs]) := by rw [ay]; simp
 have ht1 : H1.take H.length = H := by rw [ay]; exact List.take_left
 have wS : (cs.map RC.d).length = cs.length := List.length_map _
 have key : ∀ G, ∃ ex h2 o2 d es, C X (.loop lX) [(1, .ref H.length 0), (5, .nils), (22, .int .i64 os.length), (23, .int .i64 0)] (H1 ++ G) = some (.exit 0, (1, .ref H.length 0) :: (5, o2) :: ex, h2) ∧ fin H h2 [o2] = (d, H) ∧ po es (cu cs os.length) ∧ wm d es := fun G => by
  obtain ⟨ex, h2, o2, es, hc, hg, hE⟩ := K4 (Hb := H1 ++ G) (b := H.length) (p1 := p1) (p2 := p2) (p3 := p3) (p4 := p4) hO rfl hC hok hcl hn (hle dH G) os.length 0 (H1 ++ G) .nils [] (by omega) (by omega) aN.zero ⟨⟨rfl, fun i d vs h1 => by simp at h1⟩, fun x hx => by cases hx⟩
  rw [show ((0 : Nat) : Int) = 0 from rfl] at hc
  have ou : (H1 ++ G).take H.length = H := by rw [List.take_append_of_le_length (eI ht1)]; exact ht1
  have hgb := hg.base ou
  rcases hgb.fin hE.2 with ⟨h0, h1⟩ | ⟨_, h1⟩
  ·refine ⟨ex, h2, o2, _, es, hc, h1, hE.1, .inl ⟨rfl, ?_⟩⟩
   rcases hgb.2 with ⟨_, h2⟩ | ⟨g, o, h2, _⟩
   ·exact h2
   ·rw [h0] at h2; cases h2
  ·exact ⟨ex, h2, o2, _, es, hc, h1, hE.1, .inr rfl⟩
 rcases Cm (H := H1) (p1 := p1) (p2 := p2) (p3 := p3) (p4 := p4) hO hC hok hn hcl with ⟨hall, A, G, ds, dz, hA⟩ | ⟨hno, dz⟩
 ·have hc0 : ¬ 0 < cs.length := fun h => hpos ⟨h, hall⟩
  have Om : ¬ (0 : Int) < (cs.length : Int) := by omega
  obtain ⟨ex, h2, o2, d, es, hc, hf, hR, hF⟩ := key G
  refine ⟨d, es, ?_, hR, hF⟩
  have hb : (H1 ++ G)[H.length]? = some (.box 28 [.int .i64 p1, .int .i64 p2, .int .i64 p3, .int .i64 p4, Of, Cs]) := hle dH G
  have dV : A.one = true := by rcases hA.sh with ⟨h, _⟩ | ⟨o, h, _⟩ <;> rw [h] <;> rfl
  have hAs : A = .list 1 ds false ∨ ∃ o, A = .row o 0 0 ds.length false := by
   rcases hA.sh with ⟨h, _⟩ | ⟨o, h, _⟩
   ·exact .inl h
   ·exact .inr ⟨o, h⟩
  obtain ⟨HB, dc⟩ : ∃ HB, HB = H1 ++ G := ⟨_, rfl⟩
  rw [← dc] at dz hc hb
  clear key hA hR hF hall hok ht1 dc hpos
  subst ay
  rw [Zv (X := X) _ AH _ rfl rfl]; unfold AH
  rcases hAs with rfl | ⟨o, rfl⟩
  ·refine Yx (fR @dz @hb @hC @hO @wS @hc0 @Om) ?_
   refine Yy ?_
   rw [hc]
   refine rn trivial ?_
   simp only [Zh, ZV, lk, Za, List.map_cons, List.map_nil, reduceIte, Option.map_some, Nat.reduceEqDiff, hf]
  ·refine Yx (fR @dz @hb @hC @hO @wS @hc0 @Om) ?_
   refine Yy ?_
   rw [hc]
   refine rn trivial ?_
   simp only [Zh, ZV, lk, Za, List.map_cons, List.map_nil, reduceIte, Option.map_some, Nat.reduceEqDiff, hf]
 ·obtain ⟨ex, h2, o2, d, es, hc, hf, hR, hF⟩ := key []
  rw [List.append_nil] at hc
  refine ⟨d, es, ?_, hR, hF⟩
  clear key hR hF hok ht1 hpos hno
  subst ay
  rw [Zv (X := X) _ AH _ rfl rfl]; unfold AH
  refine Yx (eP @dz @dH @hC @hO @wS) ?_
  refine Yy ?_
  rw [hc]
  refine rn trivial ?_
  simp only [Zh, ZV, lk, Za, List.map_cons, List.map_nil, reduceIte, Option.map_some, Nat.reduceEqDiff, hf]
theorem K3 {Hb : Zb} {Of Cs : DV} {p1 p2 p3 p4 : Int} {os : List DV} {cs : List RC} {n b : Nat} (hO : ∀ g, vw g 1 Of = some os) (hos : os.length = n) (hC : ∀ g, vw g 3 Cs = some (cs.map RC.d)) (hok : ∀ c ∈ cs, c.Ok) (hcl : cs.length ≤ 12) (hn : n ≤ 200) (hb : Hb[b]? = some (.box 28 [.int .i64 p1, .int .i64 p2, .int .i64 p3, .int .i64 p4, Of, Cs])) :
 ∀ (m i : Nat) (h : Zb) (o : DV) (es : List DV), n - i ≤ m → i ≤ n → aN 45 1 Hb h o es → gR es (cu cs i) → ∃ ex h' o' es', C X (.loop nY) [(1, .ref b 0), (3, o), (4, .int .i64 i)] h = some (.exit 0, (1, .ref b 0) :: (3, o') :: ex, h') ∧ aN 45 1 Hb h' o' es' ∧ gR es' (cu cs n) := by
 intro m
 induction m with
 | zero =>
  intro i h o es hk qd hg hE
  obtain rfl : i = n := by omega
  have hb' := fe hg.1 hb
  refine ⟨[(4, .int .i64 i), (9, .bool false)], h, o, es, ?_, hg, hE⟩
  rw [Zc]
  unfold nY
  refine Yx (cg @hO @hos @hb') ?_
  rw [Zx]
  simp [Za, lk]
 | succ m ih =>
  intro i h o es hk qd hg hE
  by_cases c : i < n
  ·obtain ⟨I, hI⟩ : ∃ I, I = i + 1 := ⟨_, rfl⟩
   have z1 : IntKind.i64.wrap ((i : Int) + 1) = (I : Int) := wr
   have hb' := fe hg.1 hb
   obtain ⟨d, Al, hd⟩ := D4 (H := h) (p1 := p1) (p2 := p2) (p3 := p3) (p4 := p4) hO hC hok hcl (i : Int)
   rw [hos, Bh c] at hd
   have hrs : cu cs I = cu cs i ++ [fF cs i] := by rw [hI, uT]
   have hel : es.length ≤ 200 := by rw [hE.1.1]; unfold cu; simp; omega
   rcases hd with ⟨rfl, h0⟩ | rfl
   ·obtain ⟨o2, h2, ha, hg2⟩ := hg.app 24 [.nils] (by simp only [List.length_cons, List.length_nil]; omega)
    have mO : gR (es ++ [.nils]) (cu cs I) := by rw [hrs]; exact hE.snoc (.inr ⟨rfl, h0⟩)
    have cK := ih I h2 o2 _ (by omega) (by omega) hg2 mO
    have hw := hg.vw
    have y1 : ∀ h, bw [.nils] h = some ([.nils], h) := fun _ => rfl
    have y2 : Wc 1 .nils := by simp [Wc, DV.cells, DV.one]
    have y3 : Nr .nils := .nils
    have y4 : ∀ h, aK h 1 (.list 1 [.nils] true) = some [.nils] := fun _ => rfl
    have hs : C X nY [(1, .ref b 0), (3, o), (4, .int .i64 i)] h = some (.norm, [(1, .ref b 0), (3, o2), (4, .int .i64 I)], h2) := by
     clear ih cK hg hg2 hE mO hrs hb h0
     unfold nY
     refine Yx (dR @c @z1 @hO @hos @hb' @Al @y1 @y2 @y3 @y4 @hw @ha) ?_
     simp [Za, lk]
    rw [Zc, hs, ZB]
    exact cK
   ·obtain ⟨r, hr⟩ : ∃ r, r = fF cs i := ⟨_, rfl⟩
    rw [← hr] at Al hrs
    have hge := hg.ext [.frz 56 4 0 (r.map V.d)]
    obtain ⟨o2, h2, ha, hg2⟩ := hge.app 24 [.list 4 (r.map V.d) false] (by simp only [List.length_cons, List.length_nil]; omega)
    have mO : gR (es ++ [.list 4 (r.map V.d) false]) (cu cs I) := by rw [hrs]; exact hE.snoc (.inl ⟨false, rfl⟩)
    have cK := ih I h2 o2 _ (by omega) (by omega) hg2 mO
    have hw := hge.vw
    have y1 : bw [.row h.length 0 0 (r.map V.d).length false] (h ++ [HO.row 56 4 0 (r.map V.d)]) = some ([.list 4 (r.map V.d) false], h ++ [HO.frz 56 4 0 (r.map V.d)]) := by
     have q1 : (h ++ [HO.row 56 4 0 (r.map V.d)])[h.length]? = some (.row 56 4 0 (r.map V.d)) := by simp
     have q2 : ∀ x ∈ r.map V.d, Nr x := jX r
     simp only [bw, pn, rH, q1]
     rw [if_pos ⟨rfl, by omega, q2⟩]
     simp only [List.drop_zero, List.take_length]
     simp [ZO]
    have y2 : Wc 1 (.list 4 (r.map V.d) false) := by simp [Wc, DV.cells, DV.one]
    have y3 : Nr (.list 4 (r.map V.d) false) := wI r
    have y4 : ∀ h, aK h 1 (.list 1 [.list 4 (r.map V.d) false] true) = some [.list 4 (r.map V.d) false] := fun _ => rfl
    have hs : C X nY [(1, .ref b 0), (3, o), (4, .int .i64 i)] h = some (.norm, [(1, .ref b 0), (3, o2), (4, .int .i64 I)], h2) := by
     clear ih cK hg hg2 hge hE mO hrs hb hr
     generalize r.map V.d = R at *
     unfold nY
     refine Yx (dR @c @z1 @hO @hos @hb' @Al @y1 @y2 @y3 @y4 @hw @ha) ?_
     simp [Za, lk]
    rw [Zc, hs, ZB]
    exact cK
  ·exact ih i h o es (by omega) qd hg hE
theorem D3 {H : Zb} {Of Cs : DV} {p1 p2 p3 p4 : Int} {os : List DV} {cs : List RC} (hO : ∀ g, vw g 1 Of = some os) (hC : ∀ g, vw g 3 Cs = some (cs.map RC.d)) (hok : ∀ c ∈ cs, c.Ok) (hcl : cs.length ≤ 12) (hn : os.length ≤ 200) :
 ∃ d es, E X 25 [.agg [.int .i64 p1, .int .i64 p2, .int .i64 p3, .int .i64 p4, Of, Cs]] H = some (d, H) ∧ po es (cu cs os.length) ∧ wm d es := by
 obtain ⟨H1, ay⟩ : ∃ H1, H1 = H ++ [HO.box 28 [.int .i64 p1, .int .i64 p2, .int .i64 p3, .int .i64 p4, Of, Cs]] := ⟨_, rfl⟩
 have dH : H1[H.length]? = some (.box 28 [.int .i64 p1, .int .i64 p2, .int .i64 p3, .int .i64 p4, Of, Cs]) := by rw [ay]; simp
 have ht1 : H1.take H.length = H := by rw [ay, List.take_append_of_le_length (Nat.le_refl _)]; exact List.take_length
 obtain ⟨ex, h2, o2, es, hc, hg, hE⟩ := K3 hO rfl hC hok hcl hn dH os.length 0 H1 .nils [] (by omega) (by omega) aN.zero ⟨⟨rfl, fun i d vs h1 => by simp at h1⟩, fun x hx => by cases hx⟩
 rw [show ((0 : Nat) : Int) = 0 from rfl] at hc
 have key : ∀ d, fin H h2 [o2] = (d, H) → E X 25 [.agg [.int .i64 p1, .int .i64 p2, .int .i64 p3, .int .i64 p4, Of, Cs]] H = some (d, H) := by
  intro d aA
  clear hg hE hok ht1
  subst ay
  rw [Zv (X := X) _ PX _ rfl rfl]; unfold PX
  refine rn trivial ?_
  refine Yy ?_
  rw [hc]
  refine rn trivial ?_
  simp only [Zh, ZV, lk, Za, List.map_cons, List.map_nil, reduceIte, Option.map_some, Nat.reduceEqDiff, aA]
 have hgb := hg.base ht1
 rcases hgb.fin hE.2 with ⟨rfl, h1⟩ | ⟨_, h1⟩
 ·refine ⟨_, es, key _ h1, hE.1, .inl ⟨rfl, ?_⟩⟩
  rcases hgb.2 with ⟨_, h2⟩ | ⟨g, o, h2, _⟩
  ·exact h2
  ·cases h2
 ·exact ⟨_, es, key _ h1, hE.1, .inr rfl⟩
theorem Nt {h : Zb} {A B : DV} {ds es : List DV} {rs : List (List V)} (hA : vw h 1 A = some ds) (hB : vw h 1 B = some es) (hd : cF h ds rs) (he : cF h es rs) (hr : rs.length ≤ 1000) (hw : ∀ r ∈ rs, r.length ≤ 1000000) :
 ∀ (q i : Nat), rs.length - i ≤ q → i ≤ rs.length → ∃ ex, C X (.loop rX) [(0, A), (1, B), (5, .int .i64 i)] h = some (.exit 0, ex, h) := by
 have bq := hd.1
 have hel := he.1
 intro q
 induction q with
 | zero =>
  intro i hq hi
  obtain rfl : i = rs.length := by omega
  clear hd he
  rw [Zc]
  unfold rX
  refine rn (aD @hA @bq) ?_
  rw [Zx]
  exact ⟨_, rfl⟩
 | succ q ih =>
  intro i hq hi
  by_cases c : i < rs.length
  case neg => exact ih i (by omega) hi
  obtain ⟨I, hI⟩ : ∃ I, I = i + 1 := ⟨_, rfl⟩
  have z1 : IntKind.i64.wrap ((i : Int) + 1) = (I : Int) := wr
  have c' : (i : Int) < (rs.length : Int) := by omega
  have JP : i < ds.length := by omega
  have NG : i < es.length := by omega
  obtain ⟨r, hr1⟩ : ∃ r, rs[i]? = some r := ⟨rs[i], List.getElem?_eq_getElem c⟩
  obtain ⟨x, hx⟩ : ∃ x, ds[i]? = some x := ⟨ds[i], List.getElem?_eq_getElem JP⟩
  obtain ⟨y, hy⟩ : ∃ y, es[i]? = some y := ⟨es[i], List.getElem?_eq_getElem NG⟩
  obtain ⟨x1, x2⟩ := hd.2 i x r hx hr1
  obtain ⟨y1, y2⟩ := he.2 i y r hy hr1
  have Rv := x1 []
  have Rr := y1 []
  rw [List.append_nil] at Rv Rr
  have Kr := D6 Rv Rr (hw r (List.mem_of_getElem? hr1))
  have hx' : ds[i] = x := by rw [List.getElem?_eq_getElem JP] at hx; injection hx
  have hy' : es[i] = y := by rw [List.getElem?_eq_getElem NG] at hy; injection hy
  have xc := gi x2
  have yc := gi y2
  unfold DV.cells at xc yc
  have hs : C X rX [(0, A), (1, B), (5, .int .i64 i)] h = some (.norm, [(0, A), (1, B), (5, .int .i64 I)], h) := by
   clear ih hd he x1 y1 hr1 hw
   unfold rX
   refine Yx (Ah @c @c' @z1 @hA @hB @bq @hel @JP @NG @hx @hy @hx' @hy' @x2 @y2 @xc @yc @Kr) ?_
   simp [Za, lk]
  rw [Zc, hs, ZB]
  exact ih I (by omega) (by omega)
theorem QS {H : Zb} {A B : DV} {ds es : List DV} {rs : List (List V)} (hA : vw H 1 A = some ds) (hB : vw H 1 B = some es) (hd : cF H ds rs) (he : cF H es rs) (hr : rs.length ≤ 1000) (hw : ∀ r ∈ rs, r.length ≤ 1000000) : E X 23 [A, B] H = some (.bool true, H) := by
 obtain ⟨ex, hc⟩ := Nt hA hB hd he hr hw rs.length 0 (by omega) (by omega)
 rw [show ((0 : Nat) : Int) = 0 from rfl] at hc
 have bq := hd.1
 have hel := he.1
 have n0 : ((rs.length : Int) != (rs.length : Int)) = false := by simp
 have hf : fin H H [.bool true] = (.bool true, H) := by simp [fin, aH, aJ]
 clear hd he hw
 rw [Zv (X := X) _ PY _ rfl rfl]; unfold PY
 refine rn (eP @hA @hB @bq @hel @n0) ?_
 refine Yy ?_
 rw [hc]
 refine rn trivial ?_
 simp only [Zh, ZV, lk, Za, List.map_cons, List.map_nil, reduceIte, Option.map_some, Nat.reduceEqDiff, hf]
theorem wG {h : Zb} {r t sz : Nat} {xs : List DV} (h1 : h[r]? = some (.row t sz 0 xs)) : vw h sz (.row r 0 0 xs.length false) = some xs := by simp [vw, h1]
theorem KR {p3 p4 : Int} {zs : List Int} : nj p3 p4 (cO zs) ↔ (∀ z ∈ zs, p3 ≤ z ∧ z < p4) ∧ zs.Nodup := by
 have hp := uN zs
 constructor
 ·intro h
  refine ⟨fun z hz => ?_, ?_⟩
  ·obtain ⟨j, hj⟩ := List.mem_iff_getElem?.1 (hp.mem_iff.2 hz)
   have := h j (List.getElem?_eq_some_iff.1 hj).1 z hj
   exact ⟨this.1, this.2.1⟩
  ·exact hp.nodup_iff.1 ((ul h).imp (fun h => by omega))
 ·rintro ⟨h1, h2⟩ j hj x hx
  have tT := h1 x (hp.mem_iff.1 (List.mem_of_getElem? hx))
  refine ⟨tT.1, tT.2, fun h0 y hy => ?_⟩
  obtain ⟨a1, a2⟩ := List.getElem?_eq_some_iff.1 hx
  obtain ⟨b1, b2⟩ := List.getElem?_eq_some_iff.1 hy
  have hle := List.pairwise_iff_getElem.1 (Be zs) (j - 1) j b1 a1 (by omega)
  have hne := List.pairwise_iff_getElem.1 (hp.nodup_iff.2 h2) (j - 1) j b1 a1 (by omega)
  rw [a2, b2] at hle hne
  omega
def wA (s : Sch) (rs : List (List V)) (zs : List Int) (p3 p4 : Int) (i : Nat) : Prop := (p3 ≤ zs.getD i 0 ∧ zs.getD i 0 < p4) ∧ (∀ k, k < i → zs.getD k 0 ≠ zs.getD i 0) ∧ (0 < i → eV s rs zs i)
theorem B6 {s : Sch} {rs : List (List V)} {zs : List Int} {p3 p4 : Int} : (∀ i, i < zs.length → wA s rs zs p3 p4 i) ↔ nj p3 p4 (cO zs) ∧ ∀ j, 1 ≤ j → j < zs.length → eV s rs zs j := by
 have hg : ∀ (i : Nat) (h : i < zs.length), zs.getD i 0 = zs[i] := fun i h => by rw [List.getD_eq_getElem?_getD, List.getElem?_eq_getElem h]; rfl
 rw [KR]
 constructor
 ·intro h
  refine ⟨⟨fun z hz => ?_, ?_⟩, fun j h1 h2 => (h j h2).2.2 (by omega)⟩
  ·obtain ⟨i, hi, rfl⟩ := List.mem_iff_getElem.1 hz
   have := (h i hi).1
   rw [hg i hi] at this
   exact this
  ·refine List.pairwise_iff_getElem.2 fun i j hi hj hij => ?_
   have := (h j hj).2.1 i hij
   rw [hg i hi, hg j hj] at this
   exact this
 ·rintro ⟨⟨h1, h2⟩, h3⟩ i hi
  refine ⟨?_, fun k hk => ?_, fun h0 => h3 i (by omega) hi⟩
  ·rw [hg i hi]; exact h1 _ (List.getElem_mem hi)
  ·rw [hg i hi, hg k (by omega)]
   exact List.pairwise_iff_getElem.1 h2 k i (by omega) hi hk
section
variable {h : Zb} {Cd A Of Cs : DV} {s : Sch} {p1 p2 p3 p4 : Int} {zs : List Int} {a b : Nat}
theorem Hl (hO : ∀ g, vw g 1 Of = some (zs.map intD)) (hb : h[b]? = some (.box 28 [.int .i64 p1, .int .i64 p2, .int .i64 p3, .int .i64 p4, Of, Cs])) {i : Nat} (hi : i < zs.length) (hn : zs.length ≤ 1000) :
 ∀ (q k : Nat), i - k ≤ q → k ≤ i → ((∀ j, k ≤ j → j < i → zs.getD j 0 ≠ zs.getD i 0) ∧ ∃ ex, C X (.loop lW) [(2, .ref a 0), (3, .ref b 0), (9, A), (11, .int .i64 i), (12, .int .i64 k)] h = some (.exit 4, (2, .ref a 0) :: (3, .ref b 0) :: (9, A) :: (11, .int .i64 i) :: ex, h)) ∨ ((∃ j, j < i ∧ zs.getD j 0 = zs.getD i 0) ∧ C X (.loop lW) [(2, .ref a 0), (3, .ref b 0), (9, A), (11, .int .i64 i), (12, .int .i64 k)] h = some (.ret, [(4, .bool false)], h)) := by
 intro q
 induction q with
 | zero =>
  intro k hq hk
  obtain rfl : k = i := by omega
  left
  refine ⟨fun j h1 h2 => by omega, [(12, .int .i64 k), (97, .bool false)], ?_⟩
  rw [Zc]
  unfold lW
  refine rn trivial ?_
  rw [Zx]
  simp [Za, lk]
 | succ q ih =>
  intro k hq hk
  by_cases c : k < i
  case neg => exact ih k (by omega) hk
  have c' : (k : Int) < (i : Int) := by omega
  obtain ⟨K, hK⟩ : ∃ K, K = k + 1 := ⟨_, rfl⟩
  have z1 : IntKind.i64.wrap ((k : Int) + 1) = (K : Int) := wr
  have kl : k < zs.length := by omega
  obtain ⟨x, hx⟩ : ∃ x, x = zs[k] := ⟨_, rfl⟩
  obtain ⟨y, hy⟩ : ∃ y, y = zs[i] := ⟨_, rfl⟩
  have hx' := hx.symm
  have hy' := hy.symm
  have gx : zs.getD k 0 = x := by rw [List.getD_eq_getElem?_getD, List.getElem?_eq_getElem kl, hx]; rfl
  have gy : zs.getD i 0 = y := by rw [List.getD_eq_getElem?_getD, List.getElem?_eq_getElem hi, hy]; rfl
  have zl : (zs.map intD).length = zs.length := List.length_map _
  by_cases e : x = y
  ·right
   refine ⟨⟨k, c, by rw [gx, gy, e]⟩, ?_⟩
   have hs : C X lW [(2, .ref a 0), (3, .ref b 0), (9, A), (11, .int .i64 i), (12, .int .i64 k)] h = some (.ret, [(4, .bool false)], h) := by
    clear ih gx gy
    subst e
    unfold lW
    refine kg (ei @c @c' @z1 @hO @hb @zl @kl @hi @hx' @hy') ?_
    simp [Za, lk]
   rw [Zc, hs, Yw]
  ·have e' : (x == y) = false := by simp [e]
   have hs : C X lW [(2, .ref a 0), (3, .ref b 0), (9, A), (11, .int .i64 i), (12, .int .i64 k)] h = some (.norm, [(2, .ref a 0), (3, .ref b 0), (9, A), (11, .int .i64 i), (12, .int .i64 K)], h) := by
    clear ih gx gy
    unfold lW
    refine kg (dR @c @c' @z1 @hO @hb @zl @kl @hi @hx' @hy' @e @e') ?_
    simp [Za, lk]
   rw [Zc, hs, ZB]
   rcases ih K (by omega) (by omega) with ⟨h1, h2⟩ | h1
   ·refine .inl ⟨fun j h3 h4 => ?_, h2⟩
    by_cases ej : j = k
    ·subst ej; rw [gx, gy]; exact e
    ·exact h1 j (by omega) h4
   ·exact .inr h1
theorem Ho {ds : List DV} {rs : List (List V)} (aR : Cd.one = true) (hO : ∀ g, vw g 1 Of = some (zs.map intD)) (ha : h[a]? = some (.box 24 [Cd, .int .i64 s.key, .int .i64 s.cmp, .int .i64 s.del, .int .i64 s.sort])) (hb : h[b]? = some (.box 28 [.int .i64 p1, .int .i64 p2, .int .i64 p3, .int .i64 p4, Of, Cs])) (hA : vw h 1 A = some ds) (hE : cF h ds rs) (hz : zs.length = rs.length) (hn : rs.length ≤ 200) (hs : ∀ r ∈ rs, s.sort < r.length) (hm : ∀ r ∈ rs, ∀ v ∈ r, Sm v) :
 ∀ (q i : Nat), rs.length - i ≤ q → i ≤ rs.length → ((∀ j, i ≤ j → j < rs.length → wA s rs zs p3 p4 j) ∧ ∃ ex, C X (.loop dx) [(2, .ref a 0), (3, .ref b 0), (9, A), (11, .int .i64 i)] h = some (.exit 2, ex, h)) ∨ ((∃ j, j < rs.length ∧ ¬ wA s rs zs p3 p4 j) ∧ C X (.loop dx) [(2, .ref a 0), (3, .ref b 0), (9, A), (11, .int .i64 i)] h = some (.ret, [(4, .bool false)], h)) := by
 have bq := hE.1
 have zl : (zs.map intD).length = zs.length := List.length_map _
 intro q
 induction q with
 | zero =>
  intro i hq hi
  obtain rfl : i = rs.length := by omega
  left
  refine ⟨fun j h1 h2 => by omega, ?_⟩
  clear hE hs hm
  rw [Zc]
  unfold dx
  refine rn (aD @hA @bq) ?_
  rw [Zx]
  exact ⟨_, rfl⟩
 | succ q ih =>
  intro i hq hi
  by_cases c : i < rs.length
  case neg => exact ih i (by omega) hi
  have c' : (i : Int) < (rs.length : Int) := by omega
  obtain ⟨I, hI⟩ : ∃ I, I = i + 1 := ⟨_, rfl⟩
  have z1 : IntKind.i64.wrap ((i : Int) + 1) = (I : Int) := wr
  have iz : i < zs.length := by omega
  obtain ⟨x, hx⟩ : ∃ x, x = zs[i] := ⟨_, rfl⟩
  have hx' := hx.symm
  have gx : zs.getD i 0 = x := by rw [List.getD_eq_getElem?_getD, List.getElem?_eq_getElem iz, hx]; rfl
  have bad : C X dx [(2, .ref a 0), (3, .ref b 0), (9, A), (11, .int .i64 i)] h = some (.ret, [(4, .bool false)], h) → ¬ wA s rs zs p3 p4 i → ((∀ j, i ≤ j → j < rs.length → wA s rs zs p3 p4 j) ∧ ∃ ex, C X (.loop dx) [(2, .ref a 0), (3, .ref b 0), (9, A), (11, .int .i64 i)] h = some (.exit 2, ex, h)) ∨ ((∃ j, j < rs.length ∧ ¬ wA s rs zs p3 p4 j) ∧ C X (.loop dx) [(2, .ref a 0), (3, .ref b 0), (9, A), (11, .int .i64 i)] h = some (.ret, [(4, .bool false)], h)) := fun h1 h2 => .inr ⟨⟨i, c, h2⟩, by rw [Zc, h1, Yw]⟩
  have good : C X dx [(2, .ref a 0), (3, .ref b 0), (9, A), (11, .int .i64 i)] h = some (.norm, [(2, .ref a 0), (3, .ref b 0), (9, A), (11, .int .i64 I)], h) → wA s rs zs p3 p4 i → ((∀ j, i ≤ j → j < rs.length → wA s rs zs p3 p4 j) ∧ ∃ ex, C X (.loop dx) [(2, .ref a 0), (3, .ref b 0), (9, A), (11, .int .i64 i)] h = some (.exit 2, ex, h)) ∨ ((∃ j, j < rs.length ∧ ¬ wA s rs zs p3 p4 j) ∧ C X (.loop dx) [(2, .ref a 0), (3, .ref b 0), (9, A), (11, .int .i64 i)] h = some (.ret, [(4, .bool false)], h)) := fun h1 h2 => by
   rw [Zc, h1, ZB]
   rcases ih I (by omega) (by omega) with ⟨h3, h4⟩ | h3
   ·refine .inl ⟨fun j h5 h6 => ?_, h4⟩
    by_cases e : i = j
    ·subst e; exact h2
    ·exact h3 j (by omega) h6
   ·exact .inr h3
  clear ih
  by_cases c1 : x < p3
  ·refine bad ?_ (fun h => by have := h.1.1; omega)
   clear bad good hE hs hm
   unfold dx
   refine kg (cP @c @c' @z1 @hA @bq @hO @hb @zl @iz @hx' @c1) ?_
   simp [Za, lk]
  by_cases c2 : p4 ≤ x
  ·refine bad ?_ (fun h => by have := h.1.2; omega)
   clear bad good hE hs hm
   unfold dx
   refine kg (dR @c @c' @z1 @hA @bq @hO @hb @zl @iz @hx' @c1 @c2) ?_
   simp [Za, lk]
  rcases Hl (a := a) (A := A) (h := h) hO hb iz (by omega) i 0 (by omega) (by omega) with ⟨HP, ex, hc⟩ | ⟨⟨j, qZ, hj2⟩, hc⟩
  case inr =>
   rw [show ((0 : Nat) : Int) = 0 from rfl] at hc
   refine bad ?_ (fun h => h.2.1 j qZ hj2)
   clear bad good hE hs hm
   unfold dx
   refine kg (dR @c @c' @z1 @hA @bq @hO @hb @zl @iz @hx' @c1 @c2) ?_
   refine Yy ?_
   rw [hc]
   refine rn trivial ?_
   simp [Za, lk]
  rw [show ((0 : Nat) : Int) = 0 from rfl] at hc
  have o4 : ∀ k, k < i → zs.getD k 0 ≠ zs.getD i 0 := fun k hk => HP k (by omega) hk
  by_cases c3 : i = 0
  ·refine good ?_ ⟨⟨by omega, by omega⟩, o4, fun h => absurd h (by omega)⟩
   clear bad good hE hs hm HP o4
   subst c3
   obtain rfl : I = 1 := by omega
   have Jj : IntKind.i64.wrap 1 = 1 := rfl
   rw [show ((0 : Nat) : Int) = 0 from rfl] at *
   unfold dx
   refine kg (ja @c @c' @z1 @Jj @hA @bq @hO @hb @zl @iz @hx' @c1 @c2) ?_
   refine Yy ?_
   rw [hc]
   refine rn (aD @z1 @Jj) ?_
   simp [Za, lk]
  obtain ⟨J, hJ⟩ : ∃ J, J = i - 1 := ⟨_, rfl⟩
  have z2 : IntKind.i64.wrap ((i : Int) - 1) = (J : Int) := wr
  have oI : ((i : Int) == 0) = false := by simp; omega
  have mJ : ¬ (i : Int) = 0 := by omega
  have cJ : J < zs.length := by omega
  have jd : J < ds.length := by omega
  have jr : J < rs.length := by omega
  have id' : i < ds.length := by omega
  obtain ⟨y, hy⟩ : ∃ y, y = zs[J] := ⟨_, rfl⟩
  have hy' := hy.symm
  have gy : zs.getD (i - 1) 0 = y := by rw [← hJ, List.getD_eq_getElem?_getD, List.getElem?_eq_getElem cJ, hy]; rfl
  obtain ⟨r, hr⟩ : ∃ r, rs[J]? = some r := ⟨rs[J]'(by omega), List.getElem?_eq_getElem _⟩
  obtain ⟨t, ht⟩ : ∃ t, rs[i]? = some t := ⟨rs[i], List.getElem?_eq_getElem c⟩
  obtain ⟨d1, aP⟩ : ∃ d1, ds[J]? = some d1 := ⟨ds[J], List.getElem?_eq_getElem jd⟩
  obtain ⟨d2, dG⟩ : ∃ d2, ds[i]? = some d2 := ⟨ds[i], List.getElem?_eq_getElem id'⟩
  obtain ⟨v1, o1⟩ := hE.2 J d1 r aP hr
  obtain ⟨v2, o2⟩ := hE.2 i d2 t dG ht
  have oE : ds[J] = d1 := by rw [List.getElem?_eq_getElem jd] at aP; injection aP
  have i6 : ds[i] = d2 := by rw [List.getElem?_eq_getElem id'] at dG; injection dG
  have k1 := gi o1
  have k2 := gi o2
  unfold DV.cells at k1 k2
  have sr := hs r (List.mem_of_getElem? hr)
  have st := hs t (List.mem_of_getElem? ht)
  have mr := hm r (List.mem_of_getElem? hr)
  have mt := hm t (List.mem_of_getElem? ht)
  have e1 := JF (H := h) (s := s) (Cd := Cd) (d := d1) (e := d2) aR v1 o1 v2 o2 sr st mr mt
  have e2 := JF (H := h) (s := s) (Cd := Cd) (d := d2) (e := d1) aR v2 o2 v1 o1 st sr mt mr
  have hgr : rs.getD (i - 1) [] = r := by rw [← hJ, List.getD_eq_getElem?_getD, hr]; rfl
  have hgt : rs.getD i [] = t := by rw [List.getD_eq_getElem?_getD, ht]; rfl
  have tr : 0 < fG s t r ↔ fG s r t < 0 := by
   have := lA s [t, r] 0 1
   unfold dQ at this
   exact this.symm
  have sD : eV s rs zs i ↔ fG s r t ≤ 0 ∧ (fG s r t = 0 → y < x) := by unfold eV; rw [hgr, hgt, gy, gx]
  clear hE v1 v2 hs hm sr st mr mt hr ht hgr hgt HP
  by_cases b1 : 0 < fG s r t
  ·refine bad ?_ (fun h => by have := (sD.1 (h.2.2 (by omega))).1; omega)
   rw [decide_eq_true b1] at e1
   generalize decide (0 < fG s t r) = bb at *
   clear bad good sD tr b1 o4
   obtain ⟨cols, q1, q2, q3, q4⟩ := s
   simp only [Yl, Yi] at *
   unfold dx
   refine kg (C9 @c @c' @z1 @z2 @hA @bq @hO @hb @ha @aR @zl @iz @cJ @jd @jr @id' @hx' @hy' @aP @dG @oE @i6 @o1 @o2 @k1 @k2 @c1 @c2 @oI @mJ @e1 @e2) ?_
   refine Yy ?_
   rw [hc]
   refine kg (OZ @c @c' @z1 @z2 @hA @bq @hO @hb @ha @aR @zl @iz @cJ @jd @jr @id' @hx' @hy' @aP @dG @oE @i6 @o1 @o2 @k1 @k2 @c3 @oI @mJ @e1 @e2) ?_
   simp [Za, lk]
  rw [decide_eq_false b1] at e1
  by_cases b2 : 0 < fG s t r
  ·refine good ?_ ⟨⟨by omega, by omega⟩, o4, fun _ => sD.2 ⟨by omega, fun h0 => by have := tr.1 b2; omega⟩⟩
   rw [decide_eq_true b2] at e2
   clear bad good sD tr b1 b2 o4
   obtain ⟨cols, q1, q2, q3, q4⟩ := s
   simp only [Yl, Yi] at *
   unfold dx
   refine kg (C9 @c @c' @z1 @z2 @hA @bq @hO @hb @ha @aR @zl @iz @cJ @jd @jr @id' @hx' @hy' @aP @dG @oE @i6 @o1 @o2 @k1 @k2 @c1 @c2 @oI @mJ @e1 @e2) ?_
   refine Yy ?_
   rw [hc]
   refine kg (OZ @c @c' @z1 @z2 @hA @bq @hO @hb @ha @aR @zl @iz @cJ @jd @jr @id' @hx' @hy' @aP @dG @oE @i6 @o1 @o2 @k1 @k2 @c3 @oI @mJ @e1 @e2) ?_
   simp [Za, lk]
  rw [decide_eq_false b2] at e2
  have hz0 : fG s r t = 0 := by have : ¬ fG s r t < 0 := fun h => b2 (tr.2 h); omega
  by_cases b3 : x ≤ y
  ·refine bad ?_ (fun h => by have := (sD.1 (h.2.2 (by omega))).2 hz0; omega)
   clear bad good sD tr b1 b2 o4 hz0
   obtain ⟨cols, q1, q2, q3, q4⟩ := s
   simp only [Yl, Yi] at *
   unfold dx
   refine kg (OY @c @c' @z1 @z2 @hA @bq @hO @hb @ha @aR @zl @iz @cJ @jd @jr @id' @hx' @hy' @aP @dG @oE @i6 @o1 @o2 @k1 @k2 @c1 @c2 @oI @mJ @e1 @e2 @b3) ?_
   refine Yy ?_
   rw [hc]
   refine kg (C9 @c @c' @z1 @z2 @hA @bq @hO @hb @ha @aR @zl @iz @cJ @jd @jr @id' @hx' @hy' @aP @dG @oE @i6 @o1 @o2 @k1 @k2 @c3 @oI @mJ @e1 @e2 @b3) ?_
   simp [Za, lk]
  ·refine good ?_ ⟨⟨by omega, by omega⟩, o4, fun _ => sD.2 ⟨by omega, fun _ => by omega⟩⟩
   clear bad good sD tr b1 b2 o4 hz0
   obtain ⟨cols, q1, q2, q3, q4⟩ := s
   simp only [Yl, Yi] at *
   unfold dx
   refine kg (OY @c @c' @z1 @z2 @hA @bq @hO @hb @ha @aR @zl @iz @cJ @jd @jr @id' @hx' @hy' @aP @dG @oE @i6 @o1 @o2 @k1 @k2 @c1 @c2 @oI @mJ @e1 @e2 @b3) ?_
   refine Yy ?_
   rw [hc]
   refine kg (C9 @c @c' @z1 @z2 @hA @bq @hO @hb @ha @aR @zl @iz @cJ @jd @jr @id' @hx' @hy' @aP @dG @oE @i6 @o1 @o2 @k1 @k2 @c3 @oI @mJ @e1 @e2 @b3) ?_
   simp [Za, lk]
open Classical in
theorem Hp {cs : List RC} (hO : ∀ g, vw g 1 Of = some (zs.map intD)) (hC : ∀ g, vw g 3 Cs = some (cs.map RC.d)) (hok : ∀ c ∈ cs, c.Ok) (hb : h[b]? = some (.box 28 [.int .i64 p1, .int .i64 p2, .int .i64 p3, .int .i64 p4, Of, Cs])) (hcl : cs.length ≤ 1000) :
 ∀ (q k : Nat), cs.length - k ≤ q → k ≤ cs.length → ((∀ c ∈ cs.drop k, c.n = (zs.length : Int) ∧ okC c.n c.ys c.bs) ∧ ∃ ex, C X (.loop jj) [(2, .ref a 0), (3, .ref b 0), (6, .int .i64 k)] h = some (.exit 0, (2, .ref a 0) :: (3, .ref b 0) :: ex, h)) ∨ ((¬ ∀ c ∈ cs.drop k, c.n = (zs.length : Int) ∧ okC c.n c.ys c.bs) ∧ C X (.loop jj) [(2, .ref a 0), (3, .ref b 0), (6, .int .i64 k)] h = some (.ret, [(4, .bool false)], h)) := by
 have hcd : (cs.map RC.d).length = cs.length := List.length_map _
 have zl : (zs.map intD).length = zs.length := List.length_map _
 intro q
 induction q with
 | zero =>
  intro k hq hk
  obtain rfl : k = cs.length := by omega
  left
  refine ⟨fun c hc => by simp at hc, [(6, .int .i64 cs.length), (38, .bool false)], ?_⟩
  clear hok
  rw [Zc]
  unfold jj
  refine Yx (cg @hC @hb @hcd) ?_
  rw [Zx]
  simp [Za, lk]
 | succ q ih =>
  intro k hq hk
  by_cases c : k < cs.length
  case neg => exact ih k (by omega) hk
  have c' : (k : Int) < (cs.length : Int) := by omega
  obtain ⟨K, hK⟩ : ∃ K, K = k + 1 := ⟨_, rfl⟩
  have z1 : IntKind.i64.wrap ((k : Int) + 1) = (K : Int) := wr
  obtain ⟨x, hx⟩ : ∃ x, x = cs[k] := ⟨_, rfl⟩
  have cT := hok x (by rw [hx]; exact List.getElem_mem c)
  have hge : cs[k].d = .agg [.int .i64 x.n, x.D, x.B] := by rw [← hx]; rfl
  have oF := cT.dict.one
  have fQ := cT.bytes.one'
  have fP : cs.drop k = x :: cs.drop K := by rw [hK, hx, List.drop_eq_getElem_cons c]
  obtain ⟨R, Am, hR⟩ := JE (H := h) (n := x.n) cT.dict cT.yl cT.sm cT.bytes cT.bb (by have := cT.bl; omega)
  have xZ : R.one = true := by
   rcases hR with ⟨_, h1⟩ | ⟨_, h1⟩
   ·rcases h1 with ⟨h1, _⟩ | h1 <;> rw [h1] <;> rfl
   ·rw [h1]; rfl
  by_cases ho : okC x.n x.ys x.bs
  ·rw [decide_eq_true ho] at Am
   change E X 49 [.agg [.int .i64 x.n, x.D, x.B]] h = _ at Am
   by_cases hN : x.n = (zs.length : Int)
   ·have OB : (x.n != (zs.length : Int)) = false := by simp [hN]
    have hs : C X jj [(2, .ref a 0), (3, .ref b 0), (6, .int .i64 k)] h = some (.norm, [(2, .ref a 0), (3, .ref b 0), (6, .int .i64 K)], h) := by
     clear ih hok cT fP hR ho
     unfold jj
     refine Yx (mF @c @c' @z1 @hO @hC @hb @hcd @zl @hge @oF @fQ @xZ @Am @OB) ?_
     simp [Za, lk]
    rw [Zc, hs, ZB]
    rcases ih K (by omega) (by omega) with ⟨h1, h2⟩ | ⟨h1, h2⟩
    ·refine .inl ⟨fun y hy => ?_, h2⟩
     rw [fP] at hy
     rcases List.mem_cons.1 hy with rfl | hy
     ·exact ⟨hN, ho⟩
     ·exact h1 y hy
    ·exact .inr ⟨fun hall => h1 fun y hy => hall y (by rw [fP]; exact List.mem_cons_of_mem _ hy), h2⟩
   ·have OB : (x.n != (zs.length : Int)) = true := by simp [hN]
    refine .inr ⟨fun hall => hN (hall x (by rw [fP]; exact List.mem_cons_self)).1, ?_⟩
    have hs : C X jj [(2, .ref a 0), (3, .ref b 0), (6, .int .i64 k)] h = some (.ret, [(4, .bool false)], h) := by
     clear ih hok cT fP hR ho
     unfold jj
     refine Yx (mF @c @c' @z1 @hO @hC @hb @hcd @zl @hge @oF @fQ @xZ @Am @OB) ?_
     simp [Za, lk]
    rw [Zc, hs, Yw]
  ·rw [decide_eq_false ho] at Am
   change E X 49 [.agg [.int .i64 x.n, x.D, x.B]] h = _ at Am
   refine .inr ⟨fun hall => ho (hall x (by rw [fP]; exact List.mem_cons_self)).2, ?_⟩
   have hs : C X jj [(2, .ref a 0), (3, .ref b 0), (6, .int .i64 k)] h = some (.ret, [(4, .bool false)], h) := by
    clear ih hok cT fP hR ho
    unfold jj
    refine Yx (ja @c @c' @z1 @hO @hC @hb @hcd @zl @hge @oF @fQ @xZ @Am) ?_
    simp [Za, lk]
   rw [Zc, hs, Yw]
end
open Classical in
set_option maxHeartbeats 1000000 in
theorem QO {H : Zb} {Cd Of Cs : DV} {s : Sch} {p1 p2 p3 p4 : Int} {zs : List Int} {cs : List RC} (hS : ∀ g, vw g 3 Cd = some (s.cols.map Cl.d)) (hsl : s.cols.length ≤ 1000) (hO : ∀ g, vw g 1 Of = some (zs.map intD)) (mM : Of.one = true) (hC : ∀ g, vw g 3 Cs = some (cs.map RC.d)) (oG : Cs.one = true) (hok : ∀ c ∈ cs, c.Ok) (hn : zs.length ≤ 200) (hcl : cs.length ≤ 12) (aR : Cd.one = true) :
 ∃ r, E X 27 [Yl Cd s, .agg [.int .i64 p1, .int .i64 p2, .int .i64 p3, .int .i64 p4, Of, Cs]] H = some (.bool r, H) ∧ (r = true ↔ MayOk s p1 p2 p3 p4 zs cs) := by
 obtain ⟨H1, ay⟩ : ∃ H1, H1 = H ++ [HO.box 24 [Cd, .int .i64 s.key, .int .i64 s.cmp, .int .i64 s.del, .int .i64 s.sort], .box 28 [.int .i64 p1, .int .i64 p2, .int .i64 p3, .int .i64 p4, Of, Cs]] := ⟨_, rfl⟩
 have cW : (zs.map intD).length = zs.length := List.length_map _
 have hcd : (cs.map RC.d).length = cs.length := List.length_map _
 have xM : (s.cols.map Cl.d).length = s.cols.length := List.length_map _
 have dF : ∀ (r : Bool) (G : Zb), fin H (H1 ++ G) [.bool r] = (.bool r, H) := fun r G => by
  have : (H1 ++ G).take H.length = H := by rw [ay, List.append_assoc]; exact List.take_left
  simp [fin, this, aH, aJ]
 have eT : ∀ (r : Bool), fin H H1 [.bool r] = (.bool r, H) := fun r => by have := dF r []; rwa [List.append_nil] at this
 have sK := QK p1 p2 p3 p4 Of Cs
 have b0 : H1[H.length]? = some (.box 24 [Cd, .int .i64 s.key, .int .i64 s.cmp, .int .i64 s.del, .int .i64 s.sort]) := by rw [ay]; simp
 have b1 : H1[H.length + 1]? = some (.box 28 [.int .i64 p1, .int .i64 p2, .int .i64 p3, .int .i64 p4, Of, Cs]) := by rw [ay]; simp
 have n5 : ¬ (4096 : Int) < (zs.length : Int) := by omega
 have n6 : ¬ 4096 < zs.length := by omega
 cases hhd : bj p1 p2 p3 p4
 ·refine ⟨false, ?_, (fun h => by cases h), fun h => by have := h.head; rw [hhd] at this; cases this⟩
  rw [hhd] at sK
  clear b0 b1 hok dF
  subst ay
  obtain ⟨cols, k1, k2, k3, k4⟩ := s
  simp only [Yl, Yi] at *
  rw [Zv (X := X) _ kH _ rfl rfl]; unfold kH; exact d8 (cg @sK @mM @oG)
 rw [hhd] at sK
 by_cases mU : cs.length = s.cols.length
 case neg =>
  refine ⟨false, ?_, (fun h => by cases h), fun h => absurd h.cols mU⟩
  have hne : ((cs.length : Int) != (s.cols.length : Int)) = true := by simp only [bne_iff_ne, ne_eq]; omega
  clear b0 b1 hok dF
  subst ay
  obtain ⟨cols, k1, k2, k3, k4⟩ := s
  simp only [Yl, Yi] at *
  rw [Zv (X := X) _ kH _ rfl rfl]; unfold kH; exact d8 (ga @sK @mM @oG @hC @hS @hcd @xM @hne)
 have hne : ((cs.length : Int) != (s.cols.length : Int)) = false := by simp [mU]
 rcases Hp (h := H1) (a := H.length) (b := H.length + 1) hO hC hok b1 (by omega) cs.length 0 (by omega) (by omega) with ⟨hall, VP, hc0⟩ | ⟨hno, hc0⟩
 case inr =>
  rw [show ((0 : Nat) : Int) = 0 from rfl] at hc0
  rw [List.drop_zero] at hno
  refine ⟨false, ?_, (fun h => by cases h), fun h => absurd h.all hno⟩
  have hf := eT false
  clear b0 b1 hok dF hno
  subst ay
  obtain ⟨cols, k1, k2, k3, k4⟩ := s
  simp only [Yl, Yi] at *
  rw [Zv (X := X) _ kH _ rfl rfl]; unfold kH
  refine Yx (dR @sK @mM @oG @hC @hS @hO @hcd @xM @cW @hne @n5 @n6) ?_
  refine Yy ?_
  rw [hc0]
  refine rn trivial ?_
  simp only [Zh, ZV, lk, Za, List.map_cons, List.map_nil, reduceIte, Option.map_some, Nat.reduceEqDiff, hf]
 rw [show ((0 : Nat) : Int) = 0 from rfl] at hc0
 rw [List.drop_zero] at hall
 have hm : ∀ c ∈ cs, c.May zs.length := fun c hc => ⟨hok c hc, (hall c hc).2, (hall c hc).1⟩
 obtain ⟨d, es, yu, hE, hF⟩ := D3 (H := H1) (p1 := p1) (p2 := p2) (p3 := p3) (p4 := p4) hO hC hok hcl (by rw [cW]; exact hn)
 rw [cW, xw hm] at hE
 obtain ⟨rs, hrs⟩ : ∃ rs, rs = fu (cs.map RC.sc) zs.length := ⟨_, rfl⟩
 rw [← hrs] at hE
 have j4 : rs.length = zs.length := by rw [hrs]; simp [fu]
 have body : ∀ (A : DV) (P : Zb), (∀ G, vw ((H1 ++ P) ++ G) 1 A = some es) → ∃ qu r, E X 28 [Yl Cd s, A] (H1 ++ P) = some (.bool qu, H1 ++ P) ∧ (r = true ↔ MayOk s p1 p2 p3 p4 zs cs) ∧ ((qu = false ∧ r = false) ∨ (qu = true ∧ ((r = true ∧ ∃ ex, C X (.loop dx) [(2, .ref H.length 0), (3, .ref (H.length + 1) 0), (9, A), (11, .int .i64 0)] (H1 ++ P) = some (.exit 2, ex, H1 ++ P)) ∨ (r = false ∧ C X (.loop dx) [(2, .ref H.length 0), (3, .ref (H.length + 1) 0), (9, A), (11, .int .i64 0)] (H1 ++ P) = some (.ret, [(4, .bool false)], H1 ++ P))))) := fun A P hA => by
  have Sq := hE.g (H1 ++ P)
  have dz := QN (H := H1 ++ P) (A := A) hS hsl hA Sq (by omega)
  cases hf : ey s rs
  ·rw [hf] at dz
   exact ⟨false, false, dz, ⟨(fun h => by cases h), fun h => by have := h.fit; rw [← hrs, hf] at this; cases this⟩, .inl ⟨rfl, rfl⟩⟩
  ·rw [hf] at dz
   have Vf := j6 hf
   have hA0 := hA []
   rw [List.append_nil] at hA0
   rcases Ho (h := H1 ++ P) (A := A) (a := H.length) (b := H.length + 1) (s := s) (ds := es) (rs := rs) aR hO (hle b0 P) (hle b1 P) hA0 Sq j4.symm (by omega) (yg hf) (fun r hr v hv => zF (ye (Vf.2 r hr) v hv)) rs.length 0 (by omega) (by omega) with ⟨hat, ex, hc⟩ | ⟨⟨j, hj, hbad⟩, hc⟩
   ·rw [show ((0 : Nat) : Int) = 0 from rfl] at hc
    have h2 := B6.1 (fun i hi => hat i (by omega) (by omega))
    exact ⟨true, true, dz, ⟨fun _ => ⟨hall, hhd, mU, by rw [← hrs]; exact hf, h2.1, by rw [← hrs]; exact h2.2⟩, fun _ => rfl⟩, .inr ⟨rfl, .inl ⟨rfl, ex, hc⟩⟩⟩
   ·rw [show ((0 : Nat) : Int) = 0 from rfl] at hc
    refine ⟨true, false, dz, ⟨(fun h => by cases h), fun h => absurd (B6.2 ⟨h.rises, ?_⟩ j (by omega)) hbad⟩, .inr ⟨rfl, .inr ⟨rfl, hc⟩⟩⟩
    have := h.sorted
    rw [← hrs] at this
    exact this
 rcases hF with ⟨rfl, rfl⟩ | rfl
 ·obtain ⟨qu, r, dz, hr, o5⟩ := body .nils [] (fun _ => rfl)
  rw [List.append_nil] at dz o5
  have hf := eT
  refine ⟨r, ?_, hr⟩
  clear b0 b1 hok dF hall hm hE body hr eT
  subst ay
  obtain ⟨cols, k1, k2, k3, k4⟩ := s
  simp only [Yl, Yi] at *
  rcases o5 with ⟨rfl, rfl⟩ | ⟨rfl, ⟨rfl, ex, hc⟩ | ⟨rfl, hc⟩⟩
  ·rw [Zv (X := X) _ kH _ rfl rfl]; unfold kH
   refine Yx (dR @sK @mM @oG @hC @hS @hO @hcd @xM @cW @hne @n5 @n6) ?_
   refine Yy ?_
   rw [hc0]
   refine Yx (aD @yu @dz) ?_
   simp only [Zh, ZV, lk, Za, List.map_cons, List.map_nil, reduceIte, Option.map_some, Nat.reduceEqDiff, hf]
  ·rw [Zv (X := X) _ kH _ rfl rfl]; unfold kH
   refine Yx (dR @sK @mM @oG @hC @hS @hO @hcd @xM @cW @hne @n5 @n6) ?_
   refine Yy ?_
   rw [hc0]
   refine Yx (aD @yu @dz) ?_
   refine Yy ?_
   rw [hc]
   refine rn trivial ?_
   simp only [Zh, ZV, lk, Za, List.map_cons, List.map_nil, reduceIte, Option.map_some, Nat.reduceEqDiff, hf]
  ·rw [Zv (X := X) _ kH _ rfl rfl]; unfold kH
   refine Yx (dR @sK @mM @oG @hC @hS @hO @hcd @xM @cW @hne @n5 @n6) ?_
   refine Yy ?_
   rw [hc0]
   refine Yx (aD @yu @dz) ?_
   refine Yy ?_
   rw [hc]
   refine rn trivial ?_
   simp only [Zh, ZV, lk, Za, List.map_cons, List.map_nil, reduceIte, Option.map_some, Nat.reduceEqDiff, hf]
 ·obtain ⟨qu, r, dz, hr, o5⟩ := body (.row H1.length 0 0 es.length false) [.row 45 1 0 es] (fun G => ic (wG (t := 45) (by simp)))
  have hf := fun (r : Bool) => dF r [.row 45 1 0 es]
  refine ⟨r, ?_, hr⟩
  have hl1 : H1.length = H.length + 2 := by rw [ay]; simp
  rw [hl1] at dz o5
  clear b0 b1 hok dF hall hm hE body hr eT hl1
  subst ay
  simp only [List.append_assoc, List.cons_append, List.nil_append] at dz o5 hf
  obtain ⟨cols, k1, k2, k3, k4⟩ := s
  simp only [Yl, Yi] at *
  rcases o5 with ⟨rfl, rfl⟩ | ⟨rfl, ⟨rfl, ex, hc⟩ | ⟨rfl, hc⟩⟩
  ·rw [Zv (X := X) _ kH _ rfl rfl]; unfold kH
   refine Yx (dR @sK @mM @oG @hC @hS @hO @hcd @xM @cW @hne @n5 @n6) ?_
   refine Yy ?_
   rw [hc0]
   refine Yx (aD @yu @dz) ?_
   simp only [Zh, ZV, lk, Za, List.map_cons, List.map_nil, reduceIte, Option.map_some, Nat.reduceEqDiff, hf]
  ·rw [Zv (X := X) _ kH _ rfl rfl]; unfold kH
   refine Yx (dR @sK @mM @oG @hC @hS @hO @hcd @xM @cW @hne @n5 @n6) ?_
   refine Yy ?_
   rw [hc0]
   refine Yx (aD @yu @dz) ?_
   refine Yy ?_
   rw [hc]
   refine rn trivial ?_
   simp only [Zh, ZV, lk, Za, List.map_cons, List.map_nil, reduceIte, Option.map_some, Nat.reduceEqDiff, hf]
  ·rw [Zv (X := X) _ kH _ rfl rfl]; unfold kH
   refine Yx (dR @sK @mM @oG @hC @hS @hO @hcd @xM @cW @hne @n5 @n6) ?_
   refine Yy ?_
   rw [hc0]
   refine Yx (aD @yu @dz) ?_
   refine Yy ?_
   rw [hc]
   refine rn trivial ?_
   simp only [Zh, ZV, lk, Za, List.map_cons, List.map_nil, reduceIte, Option.map_some, Nat.reduceEqDiff, hf]
def P6 (H : Zb) (d R : DV) (G : Zb) : Prop := (d = .nils ∧ R = .nils ∧ G = []) ∨ ∃ l, d = .fresh 56 4 l ∧ R = .row H.length 0 0 l.length false ∧ G = [.row 56 4 0 l]
theorem Rx {d : DV} {vs : List V} {H : Zb} (hd : sV d vs) : ∃ R G, P6 H d R G ∧ ∀ G', vw ((H ++ G) ++ G') 4 R = some (vs.map V.d) := by
 rcases hd with ⟨rfl, rfl⟩ | rfl
 ·exact ⟨.nils, [], .inl ⟨rfl, rfl, rfl⟩, fun _ => rfl⟩
 ·exact ⟨_, _, .inr ⟨_, rfl, rfl, rfl⟩, fun G' => ic (wG (t := 56) (by simp))⟩
def ShR (H : Zb) (d S : DV) (G0 G : Zb) : Prop := (∃ l, d = .list 1 l false ∧ S = .list 1 l false ∧ G0 = [] ∧ G = []) ∨ (∃ o n, d = .row o 0 0 n false ∧ S = .row o 0 0 n false ∧ G0 = G) ∨ (d = .nils ∧ S = .nils ∧ G0 = [] ∧ G = []) ∨ (∃ l, d = .fresh 45 1 l ∧ S = .row H.length 0 0 l.length false ∧ G0 = [] ∧ G = [.row 45 1 0 l])
theorem Ry {d : DV} {es : List DV} {H : Zb} (hd : wm d es) : ∃ S G, ShR H d S [] G ∧ ∀ G', vw ((H ++ G) ++ G') 1 S = some es := by
 rcases hd with ⟨rfl, rfl⟩ | rfl
 ·exact ⟨.nils, [], .inr (.inr (.inl ⟨rfl, rfl, rfl, rfl⟩)), fun _ => rfl⟩
 ·exact ⟨_, _, .inr (.inr (.inr ⟨_, rfl, rfl, rfl, rfl⟩)), fun G' => ic (wG (t := 45) (by simp))⟩
theorem GR {cs : List RC} {n : Nat} (hcl : cs.length ≤ 12) : ∀ r ∈ cu cs n, r.length ≤ 1000000 := fun r hr => by
 unfold cu at hr
 obtain ⟨i, _, rfl⟩ := List.mem_map.1 hr
 unfold fF
 split
 ·simp [eY]; omega
 ·simp
section
variable {Of Cs : DV} {p1 p2 p3 p4 : Int} {zs : List Int} {cs : List RC}
theorem GQ (hO : ∀ g, vw g 1 Of = some (zs.map intD)) (hC : ∀ g, vw g 3 Cs = some (cs.map RC.d)) (hok : ∀ c ∈ cs, c.Ok) (hcl : cs.length ≤ 12) (i : Int) (H : Zb) :
 ∃ d1 R1 G1 d2 R2 G2, E X 21 [.agg [.int .i64 p1, .int .i64 p2, .int .i64 p3, .int .i64 p4, Of, Cs], .int .i64 i] H = some (d1, H) ∧ P6 H d1 R1 G1 ∧ E X 22 [.agg [.int .i64 p1, .int .i64 p2, .int .i64 p3, .int .i64 p4, Of, Cs], .int .i64 i] (H ++ G1) = some (d2, H ++ G1) ∧ P6 (H ++ G1) d2 R2 G2 ∧ E X 20 [R1, R2] ((H ++ G1) ++ G2) = some (.bool true, (H ++ G1) ++ G2) := by
 obtain ⟨d1, e1, aP⟩ := D5 (H := H) (p1 := p1) (p2 := p2) (p3 := p3) (p4 := p4) hO hC hok hcl i
 obtain ⟨R1, G1, s1, v1⟩ := Rx (H := H) aP
 obtain ⟨d2, e2, dG⟩ := D4 (H := H ++ G1) (p1 := p1) (p2 := p2) (p3 := p3) (p4 := p4) hO hC hok hcl i
 obtain ⟨R2, G2, s2, v2⟩ := Rx (H := H ++ G1) dG
 have Dz := v2 []
 rw [List.append_nil] at Dz
 refine ⟨d1, R1, G1, d2, R2, G2, e1, s1, e2, s2, D6 (v1 G2) Dz ?_⟩
 unfold nV
 split
 ·unfold fF
  split
  ·simp [eY]; omega
  ·simp
 ·simp
theorem Ee (hO : ∀ g, vw g 1 Of = some (zs.map intD)) (hC : ∀ g, vw g 3 Cs = some (cs.map RC.d)) (hok : ∀ c ∈ cs, c.Ok) (hcl : cs.length ≤ 12) (hn : zs.length ≤ 200) (H : Zb) :
 ∃ d1 S1 G0 G1 d2 S2 G2, E X 24 [.agg [.int .i64 p1, .int .i64 p2, .int .i64 p3, .int .i64 p4, Of, Cs]] H = some (d1, H ++ G0) ∧ ShR H d1 S1 G0 G1 ∧ E X 25 [.agg [.int .i64 p1, .int .i64 p2, .int .i64 p3, .int .i64 p4, Of, Cs]] (H ++ G1) = some (d2, H ++ G1) ∧ ShR (H ++ G1) d2 S2 [] G2 ∧ E X 23 [S1, S2] ((H ++ G1) ++ G2) = some (.bool true, (H ++ G1) ++ G2) := by
 have cW : (zs.map intD).length = zs.length := List.length_map _
 have j4 : (cu cs zs.length).length ≤ 1000 := by unfold cu; simp; omega
 have sH : ∀ (G1 : Zb) (S1 : DV) (ds : List DV), (∀ G, vw ((H ++ G1) ++ G) 1 S1 = some ds) → cF (H ++ G1) ds (cu cs zs.length) → ∃ d2 S2 G2, E X 25 [.agg [.int .i64 p1, .int .i64 p2, .int .i64 p3, .int .i64 p4, Of, Cs]] (H ++ G1) = some (d2, H ++ G1) ∧ ShR (H ++ G1) d2 S2 [] G2 ∧ E X 23 [S1, S2] ((H ++ G1) ++ G2) = some (.bool true, (H ++ G1) ++ G2) := fun G1 S1 ds hv hr => by
  obtain ⟨d2, es, e2, mO, hF2⟩ := D3 (H := H ++ G1) (p1 := p1) (p2 := p2) (p3 := p3) (p4 := p4) hO hC hok hcl (by rw [cW]; exact hn)
  rw [cW] at mO
  obtain ⟨S2, G2, s2, v2⟩ := Ry (H := H ++ G1) hF2
  have Dz := v2 []
  rw [List.append_nil] at Dz
  exact ⟨d2, S2, G2, e2, s2, QS (hv G2) Dz (hr.ext _) (mO.g _) j4 (GR hcl)⟩
 rcases Mf (H := H) (p1 := p1) (p2 := p2) (p3 := p3) (p4 := p4) hO hC hok (by rw [cW]; exact hn) hcl with ⟨A, G, ds, e1, hA⟩ | ⟨d, es, e1, hE, hF⟩
 ·rw [cW] at hA
  obtain ⟨d2, S2, G2, e2, s2, e3⟩ := sH G A ds hA.v hA.rows
  refine ⟨A, A, G, G, d2, S2, G2, e1, ?_, e2, s2, e3⟩
  rcases hA.sh with ⟨h1, h2, _⟩ | ⟨o, h1, _⟩
  ·exact .inl ⟨_, h1, h1, h2, h2⟩
  ·exact .inr (.inl ⟨_, _, h1, h1, rfl⟩)
 ·rw [cW] at hE
  obtain ⟨S1, G1, s1, v1⟩ := Ry (H := H) hF
  obtain ⟨d2, S2, G2, e2, s2, e3⟩ := sH G1 S1 es v1 (hE.g _)
  exact ⟨d, S1, [], G1, d2, S2, G2, by rw [List.append_nil]; exact e1, s1, e2, s2, e3⟩
end
def xq : XC → XC
 | .seq _ b => b
 | x => x
open Classical in
theorem Cf {Cd Of Cs : DV} {s : Sch} {p1 p2 p3 p4 : Int} {zs : List Int} {cs : List RC} (hS : ∀ g, vw g 3 Cd = some (s.cols.map Cl.d)) (hsl : s.cols.length ≤ 1000) (aR : Cd.one = true) (hG : SegN Of Cs zs cs) (mM : Of.one = true) (oG : Cs.one = true) (hok : ∀ c ∈ cs, c.Ok) (hn : zs.length ≤ 200) (hcl : cs.length ≤ 12) {HX : Zb}
 (x0 : ∀ g, (HX ++ g)[0]? = some (.box 24 [Cd, .int .i64 s.key, .int .i64 s.cmp, .int .i64 s.del, .int .i64 s.sort])) (x1 : ∀ g, (HX ++ g)[1]? = some (.box 28 [.int .i64 p1, .int .i64 p2, .int .i64 p3, .int .i64 p4, Of, Cs])) :
 ∃ h', C X (xq (xq (xq (xq (xq (xq b4)))))) [(3, .ref 0 0), (4, .ref 1 0), (10, .bool true)] HX = some (.ret, [(6, .bool true)], h') := by
 obtain ⟨rr, Bz⟩ : ∃ rr : Bool, (rr = true ↔ MayOk s p1 p2 p3 p4 zs cs) := ⟨decide (MayOk s p1 p2 p3 p4 zs cs), by simp⟩
 have Kq : ∀ g, E X 26 [Yl Cd s, .agg [.int .i64 p1, .int .i64 p2, .int .i64 p3, .int .i64 p4, Of, Cs]] g = some (.bool rr, g) := fun g => by
  obtain ⟨r, h1, h2⟩ := DZ (H := g) (p1 := p1) (p2 := p2) (p3 := p3) (p4 := p4) hS hsl hG.o hG.c hok hn hcl aR
  have : r = rr := by
   cases r <;> cases rr <;> first | rfl | (have := Bz.2 (h2.1 rfl); cases this) | (have := h2.2 (Bz.1 rfl); cases this)
  rw [h1, this]
 have VW : ∀ g, E X 27 [Yl Cd s, .agg [.int .i64 p1, .int .i64 p2, .int .i64 p3, .int .i64 p4, Of, Cs]] g = some (.bool rr, g) := fun g => by
  obtain ⟨r, h1, h2⟩ := QO (H := g) (p1 := p1) (p2 := p2) (p3 := p3) (p4 := p4) hS hsl hG.o.vw mM hG.c oG hok hn hcl aR
  have : r = rr := by
   cases r <;> cases rr <;> first | rfl | (have := Bz.2 (h2.1 rfl); cases this) | (have := h2.2 (Bz.1 rfl); cases this)
  rw [h1, this]
 obtain ⟨d1, S1, G0, G1, d2, S2, G2, BV, s1, yu, s2, SN⟩ := Ee (p1 := p1) (p2 := p2) (p3 := p3) (p4 := p4) hG.o.vw hG.c hok hcl hn HX
 have hb : (rr == rr) = true := by simp
 have x00 := x0 []
 have Ru := x1 []
 rw [List.append_nil] at x00 Ru
 have Ul : ∀ (g : Zb) (hb : 0 < (HX ++ g).length), (HX ++ g)[0]'hb = .box 24 [Cd, .int .i64 s.key, .int .i64 s.cmp, .int .i64 s.del, .int .i64 s.sort] := fun g hb => by
  have := x0 g
  rw [List.getElem?_eq_getElem hb] at this; injection this
 have Uk : ∀ (g : Zb) (hb : 1 < (HX ++ g).length), (HX ++ g)[1]'hb = .box 28 [.int .i64 p1, .int .i64 p2, .int .i64 p3, .int .i64 p4, Of, Cs] := fun g hb => by
  have := x1 g
  rw [List.getElem?_eq_getElem hb] at this; injection this
 refine ⟨(HX ++ G1) ++ G2, ?_⟩
 clear Bz hok hG
 obtain ⟨cols, k1, k2, k3, k4⟩ := s
 simp only [Yl, Yi] at *
 unfold b4
 simp only [xq]
 rcases s1 with ⟨l1, rfl, rfl, rfl, rfl⟩ | ⟨o1, m1, rfl, rfl, rfl⟩ | ⟨rfl, rfl, rfl, rfl⟩ | ⟨l1, rfl, rfl, rfl, rfl⟩ <;> rcases s2 with ⟨l2, rfl, rfl, _, rfl⟩ | ⟨o2, m2, rfl, rfl, rfl⟩ | ⟨rfl, rfl, _, rfl⟩ | ⟨l2, rfl, rfl, _, rfl⟩
 all_goals
  try simp only [List.append_assoc, List.append_nil, List.nil_append, List.cons_append] at *
  try simp only [List.length_append, List.length_cons, List.length_nil, Nat.zero_add] at SN
  refine Yx (qJ @BV @yu @SN @Kq @VW @x00 @Ru @x0 @x1 @Ul @Uk @mM @oG @aR @Zp @Zi @hb) ?_
  simp [Za, lk]
theorem run4 {Cd Of Cs : DV} {s : Sch} {p1 p2 p3 p4 i : Int} {zs : List Int} {cs : List RC} (hS : ∀ g, vw g 3 Cd = some (s.cols.map Cl.d)) (aR : Cd.one = true) (hG : SegN Of Cs zs cs) (mM : Of.one = true) (oG : Cs.one = true) : ∃ h', E X 4 [Yl Cd s, .agg [.int .i64 p1, .int .i64 p2, .int .i64 p3, .int .i64 p4, Of, Cs], .int .i64 i] [] = some (.bool true, h') := by
 obtain ⟨HL, Ke⟩ : ∃ HL : Zb, HL = [.box 24 [Cd, .int .i64 s.key, .int .i64 s.cmp, .int .i64 s.del, .int .i64 s.sort], .box 28 [.int .i64 p1, .int .i64 p2, .int .i64 p3, .int .i64 p4, Of, Cs]] := ⟨_, rfl⟩
 have cW : (zs.map intD).length = zs.length := List.length_map _
 have e9 := Td
 obtain ⟨rq, Pg, HT⟩ := QT (H := HL) (p1 := p1) (p2 := p2) (p3 := p3) (p4 := p4) (os := zs.map intD) ⟨hG.o.vw, hG.c, hG.raw⟩
 obtain ⟨sU, Pj, HU⟩ := QX hS HL
 have aA : ∀ h' : Zb, fin [] h' [.bool true] = (.bool true, []) := fun h' => by simp [fin, aH, aJ]
 have early : ∀ (hk : sU = false ∨ (sU = true ∧ rq = false)), ∃ h', E X 4 [Yl Cd s, .agg [.int .i64 p1, .int .i64 p2, .int .i64 p3, .int .i64 p4, Of, Cs], .int .i64 i] [] = some (.bool true, h') := by
  intro hk
  refine ⟨[], ?_⟩
  clear HT HU
  subst Ke
  obtain ⟨cols, k1, k2, k3, k4⟩ := s
  simp only [Yl, Yi] at *
  rcases hk with rfl | ⟨rfl, rfl⟩
  ·rw [Zv (X := X) _ b4 _ rfl rfl]; unfold b4; exact d8 (cg @e9 @Pj @Pg)
  ·rw [Zv (X := X) _ b4 _ rfl rfl]; unfold b4; exact d8 (cg @e9 @Pj @Pg)
 cases sU
 ·exact early (.inl rfl)
 cases rq
 ·exact early (.inr ⟨rfl, rfl⟩)
 clear early
 obtain ⟨hn, hcl, hok⟩ := HT rfl
 have hsl := HU rfl
 rw [cW] at hn
 obtain ⟨d1, R1, G1, d2, R2, G2, SR, s1, SQ, s2, Kr⟩ := GQ (p1 := p1) (p2 := p2) (p3 := p3) (p4 := p4) hG.o.vw hG.c hok hcl i HL
 obtain ⟨h', hr⟩ := Cf (s := s) (p1 := p1) (p2 := p2) (p3 := p3) (p4 := p4) hS (by omega) aR hG mM oG hok hn hcl (HX := (HL ++ G1) ++ G2) (fun g => by rw [Ke]; rfl) (fun g => by rw [Ke]; rfl)
 unfold b4 at hr
 simp only [xq] at hr
 have RB := fun (G : Zb) (d : DV) => Zp HL G d
 refine ⟨[], ?_⟩
 clear HT HU hok hG
 subst Ke
 obtain ⟨cols, k1, k2, k3, k4⟩ := s
 simp only [Yl, Yi] at *
 rcases s1 with ⟨rfl, rfl, rfl⟩ | ⟨l1, rfl, rfl, rfl⟩ <;> rcases s2 with ⟨rfl, rfl, rfl⟩ | ⟨l2, rfl, rfl, rfl⟩
 all_goals
  simp only [List.cons_append, List.nil_append, List.append_assoc, List.append_nil, List.length_cons, List.length_nil, List.length_append, Nat.zero_add, Nat.reduceAdd] at SR SQ Kr hr RB
  rw [Zv (X := X) _ b4 _ rfl rfl]; unfold b4
  refine Yx (cP @e9 @Pj @Pg @SR @SQ @Kr @RB @Zi @mM @oG @aR) ?_
  refine Yy ?_
  rw [hr]
  simp only [Zh, ZV, lk, Za, List.map_cons, List.map_nil, reduceIte, Option.map_some, Nat.reduceEqDiff, aA]
end Go.Proofs.YtmbgfbomgbdjeaaGreatDoor
