/- Ideal runs: in which order rows are sealed (seal.Order). Ideal runs: rows are sealed (seal.Build). Ideal runs: the loops of seal.Build; what it hands out. Ideal runs: seal.Build, whole. What is built may be; the chapter's example of the seal (winnowerlaw12.awake). Ideal runs: records, their rows and offsets (winnowerlaw11.Few, winnowerlaw12.Parted). Ideal runs: SealBack. Ideal runs: the document's answers on rows that fit (winnowerref07.Fits, winnowerref12.Fit). Ideal runs: SealSorts. Ideal runs: seal.Row of a segment that may be. Ideal runs: SealRows. Ideal runs: winnowerref12.Same of segments that hold the same. Ideal runs: the loops of SealOnce: rows are put back where they came from. SealOnce: what is put back is what was there. Ideal runs: SealOnce. -/
import Derived.Test.YtmbgfbomgbdjeaaGreatDoorStep
import Derived.Test.YtmbgfbomgbdjeaaGreatDoorStbA
import Derived.Test.YtmbgfbomgbdjeaaGreatDoorSealA
import Derived.Test.YtmbgfbomgbdjeaaGreatDoorColL
import Derived.Test.YtmbgfbomgbdjeaaGreatDoorPlainB
import Derived.Test.YtmbgfbomgbdjeaaGreatDoorNod
import Derived.Test.YtmbgfbomgbdjeaaGreatDoorColT
import Derived.Test.YtmbgfbomgbdjeaaGreatDoorQryR
namespace Go.Proofs.YtmbgfbomgbdjeaaGreatDoor
attribute [local go_sem] ZL ZD ZC ZE Zs Zh Zq Zk Zm Zc Ze Zl Zt Zu ZF Zr Zi ZB Zx Zw ZV Zz Yn put lk Od.v Za Zg Zn rdc Yd Ye Yc unx eqk DV.isU DV.cells hget ZP Yb ZO Zp splice ZQ mat ZW eqs one_bool one_int one_str one_nilp one_ref one_elem one_nils one_list one_row one_nilm one_map one_nilf one_func one_nili one_ifc one_agg one_tup Yv Yw
attribute [local go_sem ↓] Zj
set_option linter.unusedVariables false
set_option linter.unusedSimpArgs false
set_option maxRecDepth 10000
theorem cmpI_pos (a b : Int) : 0 < cmpI a b ↔ b < a := by
  unfold cmpI
  split
  · simp; omega
  · split <;> simp_all
theorem cmpL_pos : ∀ (x y : List UInt8), 0 < cmpL x y ↔ cmpL y x < 0
  | [], [] => by simp [cmpL, Op.bytesLess]
  | [], _ :: _ => by simp [cmpL, Op.bytesLess]
  | _ :: _, [] => by simp [cmpL, Op.bytesLess]
  | a :: x, b :: y => by
    by_cases h1 : a < b
    · rw [cmpL_lt _ _ h1, cmpL_gt _ _ h1]; simp
    by_cases h2 : b < a
    · rw [cmpL_gt _ _ h2, cmpL_lt _ _ h2]; simp
    have : a = b := by
      rw [UInt8.lt_iff_toNat_lt] at *
      exact UInt8.toNat_inj.1 (by omega)
    subst this
    rw [cmpL_eq, cmpL_eq]
    exact cmpL_pos x y
theorem ord_anti (a b : V) : ord b a < 0 ↔ 0 < ord a b := by
  obtain ⟨k, n, s, t⟩ := a
  obtain ⟨k', n', s', t'⟩ := b
  unfold ord
  simp only
  by_cases h1 : k = k'
  · subst h1
    simp only [ne_eq, not_true_eq_false, ↓reduceIte]
    by_cases h2 : k = 1
    · simp only [h2, ↓reduceIte]; rw [cmpI_neg, cmpI_pos]
    simp only [h2, ↓reduceIte]
    by_cases h3 : k = 2
    · simp only [h3, ↓reduceIte]; rw [cmpS_L, cmpS_L]
      exact (cmpL_pos _ _).symm
    simp only [h3, ↓reduceIte]
    by_cases h4 : k = 3
    · simp only [h4, ↓reduceIte]; rw [cmpI_neg, cmpI_pos]
    simp [h4]
  · rw [if_pos (fun h => h1 h.symm), if_pos h1, cmpI_neg, cmpI_pos]
theorem ord_le_trans (a b c : V) (h1 : ord a b ≤ 0) (h2 : ord b c ≤ 0) : ord a c ≤ 0 := by
  by_cases h : ord a c ≤ 0
  · exact h
  have h3 := (ord_anti a c).2 (by omega)
  have e1 := ord_anti a b
  have e2 := ord_anti b c
  rcases ord_or c b a h3 with h4 | h4 <;> omega
/-- How rows stand to one another, by their numbers. -/
def rowC (s : Sch) (rs : List (List V)) (i k : Nat) : Int := ordV s (rs.getD i []) (rs.getD k [])
theorem rowC_anti (s : Sch) (rs : List (List V)) (x y : Nat) : rowC s rs y x < 0 ↔ 0 < rowC s rs x y := by
  unfold rowC ordV
  split
  · simp
  · exact ord_anti _ _
theorem rowC_trans (s : Sch) (rs : List (List V)) (x y z : Nat) (h1 : rowC s rs x y ≤ 0) (h2 : rowC s rs y z ≤ 0) : rowC s rs x z ≤ 0 := by
  unfold rowC ordV at *
  split
  · simp
  · rename_i c
    rw [if_neg c] at h1 h2
    exact ord_le_trans _ _ _ h1 h2
theorem fitA_fits {s : Sch} {rs : List (List V)} (h : fitA s rs = true) : smayV s = true ∧ ∀ r ∈ rs, fitsV s r = true := by
  unfold fitA at h
  simp only [Bool.and_eq_true, Bool.not_eq_true', List.any_eq_false] at h
  exact ⟨h.1, fun r hr => by have := h.2 r hr; simpa using this⟩
theorem fitsV_len {s : Sch} {r : List V} (h : fitsV s r = true) : r.length = s.cols.length := by
  unfold fitsV at h
  simp only [Bool.and_eq_true, decide_eq_true_eq] at h
  exact h.2.1
theorem smayV_sort {s : Sch} (h : smayV s = true) : s.sort < s.cols.length ∧ s.cols.length ≤ 8 ∧ 1 ≤ s.cols.length ∧ -1 ≤ s.sort := by
  unfold smayV at h
  simp only [Bool.and_eq_true, decide_eq_true_eq] at h
  exact ⟨h.2.2.2.2.2, h.2.2.1, h.2.1, h.2.2.2.2.1⟩
theorem fitA_sort {s : Sch} {rs : List (List V)} (h : fitA s rs = true) : ∀ r ∈ rs, s.sort < r.length := fun r hr => by
  obtain ⟨h1, h2⟩ := fitA_fits h
  rw [fitsV_len (h2 r hr)]
  exact (smayV_sort h1).1
/-- What is handed out: new numbers. -/
def FreshI (d : DV) (l : List Nat) : Prop := (d = .nils ∧ l = []) ∨ d = .fresh 3 1 (l.map iD)
/-- The order of rows: all of them, each once. -/
structure OrdZ (s : Sch) (rs : List (List V)) (Z : List Nat) : Prop where
  perm : Z.Perm (List.range rs.length)
  lx : Z.Pairwise (Lx (rowC s rs))
theorem loop17 {Hb : Zb} {b n : Nat} (hn : n ≤ 1000000) :
    ∀ (k i : Nat) (h : Zb) (d : DV), n - i ≤ k → i ≤ n → Gro 3 1 Hb h d ((List.range i).map iD) → ∃ ex h' d', C X (.loop lp17_0) [(5, .ref b 0), (6, d), (15, .int .i64 n), (16, .int .i64 i)] h = some (.exit 0, (5, .ref b 0) :: (6, d') :: ex, h') ∧ Gro 3 1 Hb h' d' ((List.range n).map iD) := by
  intro k
  induction k with
  | zero =>
    intro i h d hk hi hg
    obtain rfl : i = n := by omega
    refine ⟨[(15, .int .i64 i), (16, .int .i64 i), (17, .bool false)], h, d, ?_, hg⟩
    rw [Zf]
    unfold lp17_0
    refine rn trivial ?_
    rw [ZA]
    simp [Za, lk]
  | succ k ih =>
    intro i h d hk hi hg
    by_cases c : i < n
    case neg => exact ih i h d (by omega) hi hg
    have c' : (i : Int) < (n : Int) := by omega
    obtain ⟨I, hI'⟩ : ∃ I, I = i + 1 := ⟨_, rfl⟩
    have z1 : IntKind.i64.wrap ((i : Int) + 1) = (I : Int) := (by rw [wrap64 _ (by omega) (by omega)]; omega)
    obtain ⟨d2, h2, ha, hg2⟩ := hg.app 8 [.int .i64 (i : Nat)] (by simp; omega)
    have hw := hg.vw
    rw [show (List.range i).map iD ++ [DV.int .i64 (i : Nat)] = (List.range I).map iD by rw [hI', List.range_succ, List.map_append]; rfl] at hg2
    have y1 : ∀ h, eltL [.int .i64 (i : Nat)] h = some ([.int .i64 (i : Nat)], h) := fun _ => rfl
    have y2 : Wc 1 (.int .i64 (i : Nat)) := by simp [Wc, DV.cells, DV.one]
    have y3 : Nr (.int .i64 (i : Nat)) := .int _ _
    have y4 : ∀ h, srcOf h 1 (.list 1 [.int .i64 (i : Nat)] true) = some [.int .i64 (i : Nat)] := fun _ => rfl
    have hs : C X lp17_0 [(5, .ref b 0), (6, d), (15, .int .i64 n), (16, .int .i64 i)] h = some (.norm, [(5, .ref b 0), (6, d2), (15, .int .i64 n), (16, .int .i64 I)], h2) := by
      clear hg hg2 ih
      unfold lp17_0
      refine rn (fA9 @c @c' @z1 @y1 @y2 @y3 @y4 @hw @ha) ?_
      simp [Za, lk]
    rw [Zf, hs, ZJ]
    exact ih I h2 d2 (by omega) (by omega) hg2
theorem run17 {H : Zb} {Cd A : DV} {s : Sch} {ds : List DV} {rs : List (List V)} (hC : ∀ g, vw g 3 Cd = some (s.cols.map Cl.d)) (hCd1 : Cd.one = true) (hl : s.cols.length ≤ 1000) (hA1 : A.one = true) (hA : ∀ G, vw (H ++ G) 1 A = some ds) (hE : RowsG H ds rs) (hb : rs.length ≤ 1000) :
    (fitA s rs = false ∧ E X 17 [schD Cd s, A] H = some (.nils, H)) ∨ (fitA s rs = true ∧ ∃ d Z, E X 17 [schD Cd s, A] H = some (d, H) ∧ FreshI d Z ∧ OrdZ s rs Z) := by
  obtain ⟨HB, hHB⟩ : ∃ HB, HB = H ++ [HO.box 24 [Cd, .int .i64 s.key, .int .i64 s.cmp, .int .i64 s.del, .int .i64 s.sort], .box 66 [Cd, .int .i64 s.key, .int .i64 s.cmp, .int .i64 s.del, .int .i64 s.sort, A]] := ⟨_, rfl⟩
  have hAB : ∀ G, vw (HB ++ G) 1 A = some ds := fun G => by rw [hHB, List.append_assoc]; exact hA _
  have hEB : RowsG HB ds rs := by rw [hHB]; exact hE.ext _
  have e34 := run34 (H := HB) (A := A) hC hl hAB hEB hb
  have g5 : HB[H.length + 1]? = some (.box 66 [Cd, .int .i64 s.key, .int .i64 s.cmp, .int .i64 s.del, .int .i64 s.sort, A]) := by rw [hHB]; simp
  have hAu : A.isU = false := by cases A <;> first | rfl | simp [DV.one] at hA1
  have hAc := cells1 hA1
  unfold DV.cells at hAc
  unfold DV.isU at hAu
  cases hf : fitA s rs
  · left
    refine ⟨rfl, ?_⟩
    rw [hf] at e34
    clear hAB hEB hA hE
    subst hHB
    obtain ⟨cols, k1, k2, k3, k4⟩ := s
    simp only [schD, schC] at *
    rw [ZH (X := X) _ b17 _ rfl rfl]; unfold b17
    refine rn0 (fA5 @hCd1 @hA1 @hAu @hAc @e34) ?_
    exact re @hA1
  · right
    refine ⟨rfl, ?_⟩
    rw [hf] at e34
    have hAv : vw HB 1 A = some ds := by have := hAB []; rwa [List.append_nil] at this
    have hdl : ds.length = rs.length := hE.1
    obtain ⟨ex, h3, d3, hc, hg⟩ := loop17 (Hb := HB) (b := H.length + 1) (n := rs.length) (by omega) rs.length 0 HB .nils (by omega) (by omega) Gro.zero
    rw [show ((0 : Nat) : Int) = 0 from rfl] at hc
    have hb3 := pre_get hg.1 g5
    have key : ∃ Z h4 d, E X 40 [d3, .func 41 [.agg [Cd, .int .i64 s.key, .int .i64 s.cmp, .int .i64 s.del, .int .i64 s.sort, A]] []] h3 = some (.tup [], h4) ∧ fin H h4 [d3] = (d, H) ∧ FreshI d Z ∧ OrdZ s rs Z := by
      have hpre : HB.take H.length = H := by rw [hHB]; exact List.take_left
      have hsort := fitA_sort hf
      rcases hg.2 with ⟨rfl, hx⟩ | ⟨g, o, rfl, ho, h3o⟩
      · have h0 : rs.length = 0 := by simpa using congrArg List.length hx
        have hnil := List.eq_nil_of_length_eq_zero h0
        refine ⟨[], h3, .nils, run40n _ _, ?_, .inl ⟨rfl, rfl⟩, ⟨by rw [h0]; exact List.Perm.refl _, .nil⟩⟩
        rcases (hg.base hpre).fin (by rw [hx]; simp) with ⟨_, h⟩ | ⟨h, _⟩
        · exact h
        · exact absurd rfl h
      · have hxl : ((List.range rs.length).map iD).length = rs.length := by simp
        rw [hxl]
        have hr := (List.getElem?_eq_some_iff.1 h3o).1
        have hself : hI h3 o g (List.range rs.length) = h3 := by
          unfold hI
          apply List.ext_getElem?
          intro i
          by_cases e : o = i
          · subst e; rw [List.getElem?_set_self hr, h3o]
          · rw [List.getElem?_set_ne e]
        have hpreI : ∀ l, (hI h3 o g l).take HB.length = HB := fun l => by unfold hI; rw [List.take_set_of_le ho]; exact hg.1
        have hCmp : CmpI h3 o g rs.length 41 (.agg [Cd, .int .i64 s.key, .int .i64 s.cmp, .int .i64 s.del, .int .i64 s.sort, A]) (rowC s rs) := by
          refine ⟨fun l i k hi hk => ?_, rowC_anti s rs, rowC_trans s rs⟩
          obtain ⟨G, hG⟩ := take_split (hpreI l)
          have e41 := run41 (H := hI h3 o g l) (Cd := Cd) (s := s) (A := A) (ds := ds) (rs := rs) (i := i) (k := k) (fun G2 => by rw [hG, List.append_assoc]; exact hAB _) (by rw [hG]; exact hEB.ext _) (List.getElem?_eq_getElem hi) (List.getElem?_eq_getElem hk) (hsort _ (List.getElem_mem _)) (hsort _ (List.getElem_mem _))
          rw [e41]
          simp [rowC, List.getD_eq_getElem?_getD, hi, hk]
        obtain ⟨Z, e, z1, z2⟩ := run40 hCmp hr (by omega) (l := List.range rs.length) (by simp) (fun y hy => List.mem_range.1 hy) List.pairwise_lt_range
        rw [hself] at e
        have hZl : Z.length = rs.length := by rw [z1.length_eq]; simp
        have hgZ : Gro 3 1 HB (hI h3 o g Z) (.row o g 0 rs.length false) (Z.map iD) := ⟨hpreI Z, .inr ⟨g, o, by rw [List.length_map, hZl], ho, by unfold hI; rw [List.getElem?_set_self hr]⟩⟩
        have hnr : ∀ x ∈ Z.map iD, Nr x := fun x hx => by
          obtain ⟨y, _, rfl⟩ := List.mem_map.1 hx
          exact .int _ _
        rcases (hgZ.base hpre).fin hnr with ⟨h, _⟩ | ⟨_, hfin⟩
        · cases h
        · exact ⟨Z, _, _, e, hfin, .inr rfl, ⟨z1, z2⟩⟩
    obtain ⟨Z, h4, d, e40, hfin, hZ1, hZ2⟩ := key
    refine ⟨d, Z, ?_, hZ1, hZ2⟩
    clear hAB hEB hA hE hg
    subst hHB
    obtain ⟨cols, k1, k2, k3, k4⟩ := s
    simp only [schD, schC] at *
    rw [ZH (X := X) _ b17 _ rfl rfl]; unfold b17
    refine rn0 (fA7 @hCd1 @hA1 @hAu @hAc @e34 @hAv @hdl) ?_
    refine keG ?_
    rw [hc]
    refine rn0 (fA2 @hb3 @e40) ?_
    simp only [Zv, Ya, lk, Za, List.map_cons, List.map_nil, reduceIte, Option.map_some, Nat.reduceEqDiff, hfin]
set_option linter.unusedSectionVars false
/-- A column that was built of values. -/
structure BuiltC (ls : List V) (c : RC) : Prop where
  n : c.n = (ls.length : Int)
  bs : c.bs = pack (ls.map (place c.ys)) (wC c.ys.length)
  up : Up c.ys
  mem : ∀ x, x ∈ c.ys ↔ x ∈ ls
  yl : c.ys.length ≤ ls.length
  may : ∀ x ∈ ls, mayV x = true
  dict : ValL c.D c.ys
  B : c.B = .list 1 (c.bs.map bD) false
theorem ba_nil {s : ByteArray} (h : (s == ⟨#[]⟩) = true) : s = ⟨#[]⟩ := by
  have h' : (s.data == #[]) = true := h
  cases s
  simp at h' ⊢
  exact h'
theorem upRisS : ∀ (l : List V) (p : V), Up (p :: l) → (∀ x ∈ l, mayV x = true) → risL (some p) l = true
  | [], p, _, _ => rfl
  | a :: l, p, h, hm => by
    have h1 := List.pairwise_cons.1 h
    simp only [risL, Bool.and_eq_true, decide_eq_true_eq]
    exact ⟨hm a (by simp), h1.1 a (by simp), upRisS l a h1.2 (fun x hx => hm x (by simp [hx]))⟩
theorem upRis {l : List V} (h : Up l) (hm : ∀ x ∈ l, mayV x = true) : risL none l = true := by
  cases l with
  | nil => rfl
  | cons a l =>
    simp only [risL, Bool.and_eq_true]
    exact ⟨hm a (by simp), upRisS l a h (fun x hx => hm x (by simp [hx]))⟩
theorem may_size {v : V} (h : mayV v = true) : Sm v := by
  unfold mayV at h
  unfold Sm
  by_cases h1 : v.k = 1
  · simp [h1] at h
    rw [ba_nil h.1]; decide
  by_cases h2 : v.k = 2
  · simp [h1, h2] at h
    omega
  by_cases h3 : v.k = 3
  · simp [h1, h2, h3] at h
    rw [ba_nil h.2]; decide
  by_cases h4 : v.k = 0
  · simp [h1, h2, h3, h4] at h
    rw [ba_nil h.1.2]; decide
  · simp [h1, h2, h3, h4] at h
theorem wC_le {n : Nat} (h : n ≤ 200) : wC n ≤ 8 := by
  have h1 := wN_mono (n - 1) 255 (by omega)
  have h2 : wN 255 = 8 := by decide
  unfold wC; omega
section
variable {ls : List V} {c : RC} (h : BuiltC ls c) (hl : ls.length ≤ 200)
include h hl
theorem BuiltC.il_w : ∀ p ∈ ls.map (place c.ys), wN p ≤ wC c.ys.length ∧ p < c.ys.length := fun p hp => by
  obtain ⟨x, hx, rfl⟩ := List.mem_map.1 hp
  have hq := (List.getElem?_eq_some_iff.1 (up_at_place h.up ((h.mem x).2 hx)).1).1
  exact ⟨wN_mono _ _ (by omega), hq⟩
theorem BuiltC.ids : idsN c.bs (wC c.ys.length) c.n.toNat = ls.map (place c.ys) := by
  rw [h.bs, h.n, Int.toNat_natCast]
  unfold idsN
  apply List.ext_getElem
  · simp
  · intro i h1 h2
    simp only [List.getElem_map, List.getElem_range]
    have hi : i < (ls.map (place c.ys)).length := h2
    have := numB_pack (ls.map (place c.ys)) (wC c.ys.length) i hi (h.il_w hl _ (List.getElem_mem hi)).1
    rw [this]
    simp
theorem BuiltC.pad : padOk c.bs (wC c.ys.length) c.n.toNat := by
  rw [h.bs, h.n, Int.toNat_natCast]
  refine ⟨by rw [pack_len, List.length_map], fun h0 => ?_⟩
  have := pack_last (ls.map (place c.ys)) (wC c.ys.length) (by rw [List.length_map]; exact h0)
  rw [List.length_map] at this
  rw [pack_len, List.length_map]
  exact Nat.div_eq_of_lt this
theorem BuiltC.ok : c.Ok := by
  have hw := wC_le (n := c.ys.length) (by have := h.yl; omega)
  refine ⟨h.dict, by have := h.yl; omega, fun x hx => may_size (h.may x ((h.mem x).1 hx)), .inr h.B, by rw [h.bs]; exact pack_BB _ _, ?_⟩
  rw [h.bs, pack_len, List.length_map]
  have : ls.length * wC c.ys.length ≤ 200 * 8 := Nat.mul_le_mul hl hw
  omega
theorem BuiltC.okC : okC c.n c.ys c.bs := by
  have hn := h.n
  refine ⟨by omega, by omega, upRis h.up (fun x hx => h.may x ((h.mem x).1 hx)), h.pad hl, fun p hp => ?_, fun k hk => ?_⟩
  · rw [h.ids hl] at hp
    exact (h.il_w hl p hp).2
  · rw [h.ids hl]
    have hx := List.getElem_mem hk
    refine List.mem_map.2 ⟨c.ys[k], (h.mem _).1 hx, ?_⟩
    exact up_place h.up (List.getElem?_eq_getElem hk)
theorem BuiltC.val {i : Nat} {v : V} (hv : ls[i]? = some v) : c.sc.val i = v := by
  have e : c.sc.il = ls.map (place c.ys) := h.ids hl
  unfold SC.val
  rw [e]
  have e2 : c.sc.ys = c.ys := rfl
  rw [e2]
  have h1 : (ls.map (place c.ys)).getD i 0 = place c.ys v := by simp [List.getD_eq_getElem?_getD, hv]
  rw [h1, List.getD_eq_getElem?_getD, (up_at_place h.up ((h.mem v).2 (List.mem_of_getElem? hv))).1]
  rfl
end
/-- Two columns of the same values. -/
theorem BuiltC.same {ls : List V} {c d : RC} (h : BuiltC ls c) (h' : BuiltC ls d) : c.n = d.n ∧ c.ys = d.ys ∧ c.bs = d.bs := by
  have e : c.ys = d.ys := up_ext _ _ h.up h'.up (fun v => by rw [h.mem, h'.mem])
  refine ⟨by rw [h.n, h'.n], e, by rw [h.bs, h'.bs, e]⟩
/-- What may be sealed. -/
def BldOk (s : Sch) (p1 p2 p3 p4 : Int) (rs : List (List V)) (zs : List Int) : Prop := headB p1 p2 p3 p4 = true ∧ fitA s rs = true ∧ zs.length = rs.length ∧ RisOk p3 p4 zs
/-- Columns as they are handed out. -/
def ColsA (d : DV) (cs : List RC) : Prop := (d = .nils ∧ cs = []) ∨ d = .list 3 (cs.map RC.d) false
theorem ColsA.vw {d : DV} {cs : List RC} (h : ColsA d cs) (g : Zb) : vw g 3 d = some (cs.map RC.d) := by
  rcases h with ⟨rfl, rfl⟩ | rfl <;> rfl
/-- A column of rows, in an order. -/
def colV (rs : List (List V)) (Z : List Nat) (k : Nat) : List V := Z.map fun i => (rs.getD i []).getD k v0
/-- The segment of rows. -/
structure BldC (s : Sch) (rs : List (List V)) (Z : List Nat) (cs : List RC) : Prop where
  len : cs.length = s.cols.length
  col : ∀ k c, cs[k]? = some c → BuiltC (colV rs Z k) c
theorem run13n {H : Zb} {Cd A O Of Cs : DV} {s : Sch} {p1 p2 p3 p4 : Int} {ds : List DV} {rs : List (List V)} {zs : List Int} (hC : ∀ g, vw g 3 Cd = some (s.cols.map Cl.d)) (hCd1 : Cd.one = true) (hl : s.cols.length ≤ 1000) (hA1 : A.one = true) (hA : ∀ G, vw (H ++ G) 1 A = some ds) (hE : RowsG H ds rs) (hb : rs.length ≤ 200) (hO : ∀ G, vw (H ++ G) 1 O = some (zs.map intD)) (hzl : zs.length ≤ 1000) (hn : ¬ BldOk s p1 p2 p3 p4 rs zs) :
    E X 13 [schD Cd s, .agg [.int .i64 p1, .int .i64 p2, .int .i64 p3, .int .i64 p4, Of, Cs], A, O] H = some (.tup [.agg [.int .i64 0, .int .i64 0, .int .i64 0, .int .i64 0, .nils, .nils], .nils, .int .i64 1], H) := by
  obtain ⟨HB, hHB⟩ : ∃ HB, HB = H ++ [HO.box 24 [Cd, .int .i64 s.key, .int .i64 s.cmp, .int .i64 s.del, .int .i64 s.sort], .box 28 [.int .i64 p1, .int .i64 p2, .int .i64 p3, .int .i64 p4, Of, Cs], .box 28 [.int .i64 0, .int .i64 0, .int .i64 0, .int .i64 0, .nils, .nils]] := ⟨_, rfl⟩
  have hAB : ∀ G, vw (HB ++ G) 1 A = some ds := fun G => by rw [hHB, List.append_assoc]; exact hA _
  have hOB : ∀ G, vw (HB ++ G) 1 O = some (zs.map intD) := fun G => by rw [hHB, List.append_assoc]; exact hO _
  have hA0 : vw HB 1 A = some ds := by have := hAB []; rwa [List.append_nil] at this
  have hO0 : vw HB 1 O = some (zs.map intD) := by have := hOB []; rwa [List.append_nil] at this
  have hEB : RowsG HB ds rs := by rw [hHB]; exact hE.ext _
  have e33 := run33v p1 p2 p3 p4 Of Cs
  have e34 := run34 (H := HB) (A := A) hC hl hAB hEB (by omega)
  obtain ⟨b35, e35, hr35⟩ := run35 (H := HB) (L := O) (Of := Of) (Cs := Cs) (p1 := p1) (p2 := p2) (p3 := p3) (p4 := p4) hOB hzl
  have hAu : A.isU = false := by cases A <;> first | rfl | simp [DV.one] at hA1
  have hAc := cells1 hA1
  unfold DV.cells at hAc
  unfold DV.isU at hAu
  have hdl : ds.length = rs.length := hE.1
  have hlz : (zs.map intD).length = zs.length := List.length_map _
  cases h1 : headB p1 p2 p3 p4
  · rw [h1] at e33
    clear hAB hOB hEB hA hO hE e34 e35 hr35 hn
    subst hHB
    obtain ⟨cols, k1, k2, k3, k4⟩ := s
    simp only [schD, schC] at *
    rw [ZH (X := X) _ b13 _ rfl rfl]; unfold b13; exact rg0 (fA5 @hCd1 @hA1 @hAu @hAc @e33)
  cases h2 : fitA s rs
  · rw [h1] at e33
    rw [h2] at e34
    clear hAB hOB hEB hA hO hE e35 hr35 hn
    subst hHB
    obtain ⟨cols, k1, k2, k3, k4⟩ := s
    simp only [schD, schC] at *
    rw [ZH (X := X) _ b13 _ rfl rfl]; unfold b13; exact rg0 (fA6 @hCd1 @hA1 @hAu @hAc @e33 @e34)
  rw [h1] at e33
  rw [h2] at e34
  by_cases h3 : zs.length = rs.length
  case neg =>
    have h3' : ((zs.length : Int) != (rs.length : Int)) = true := by simp only [bne_iff_ne, ne_eq]; omega
    clear hAB hOB hEB hA hO hE e35 hr35 hn
    subst hHB
    obtain ⟨cols, k1, k2, k3, k4⟩ := s
    simp only [schD, schC] at *
    rw [ZH (X := X) _ b13 _ rfl rfl]; unfold b13; exact rg0 (fA11 @hCd1 @hA1 @hAu @hAc @e33 @e34 @hA0 @hO0 @hdl @hlz @h3')
  have h4 : b35 = false := by
    cases b35
    · rfl
    · exact absurd ⟨h1, h2, h3, hr35.1 rfl⟩ hn
  rw [h4] at e35
  clear hAB hOB hEB hA hO hE hr35 hn
  subst hHB
  obtain ⟨cols, k1, k2, k3, k4⟩ := s
  simp only [schD, schC] at *
  rw [ZH (X := X) _ b13 _ rfl rfl]; unfold b13; exact rg0 (fA12 @hCd1 @hA1 @hAu @hAc @e33 @e34 @e35 @hA0 @hO0 @hdl @hlz @h3)
/-- A slice whose elements lie in the heap, or nowhere. -/
def RowIs (N T sz : Nat) (h : Zb) (d : DV) (xs : List DV) : Prop := (d = .nils ∧ xs = []) ∨ ∃ g o, d = .row o g 0 xs.length false ∧ N ≤ o ∧ (h[o]? = some (.row T sz g xs) ∨ h[o]? = some (.frz T sz g xs))
def LstIs (sz : Nat) (d : DV) (xs : List DV) : Prop := (d = .nils ∧ xs = []) ∨ d = .list sz xs false
theorem RowIs.fz {N T sz : Nat} {h : Zb} {d : DV} {xs : List DV} (hr : RowIs N T sz h d xs) (hn : ∀ x ∈ xs, Nr x) : ∃ d' h', fz0 N h false d = some (d', h') ∧ LstIs sz d' xs ∧ ∀ T' sz' d2 ys, RowIs N T' sz' h d2 ys → RowIs N T' sz' h' d2 ys := by
  rcases hr with ⟨rfl, rfl⟩ | ⟨g, o, rfl, ho, hx⟩
  · exact ⟨.nils, h, rfl, .inl ⟨rfl, rfl⟩, fun _ _ _ _ h => h⟩
  · rcases hx with hx | hx
    · refine ⟨.list sz xs false, h.set o (.frz T sz g xs), ?_, .inr rfl, fun T' sz' d2 ys h2 => ?_⟩
      · simp only [fz0]
        rw [if_neg (by omega), hx]
        simp only
        rw [if_pos ⟨rfl, by simp, hn⟩]
        simp
      · rcases h2 with h2 | ⟨g2, o2, rfl, ho2, hx2⟩
        · exact .inl h2
        · refine .inr ⟨g2, o2, rfl, ho2, ?_⟩
          have hlt := (List.getElem?_eq_some_iff.1 hx).1
          by_cases e : o = o2
          · subst e
            rw [List.getElem?_set_self hlt]
            rw [hx] at hx2
            rcases hx2 with hx2 | hx2 <;> injection hx2 with hx2
            · injection hx2 with e1 e2 e3 e4
              subst e1; subst e2; subst e3; subst e4
              exact .inr rfl
            · cases hx2
          · rw [List.getElem?_set_ne e]; exact hx2
    · refine ⟨.list sz xs false, h, ?_, .inr rfl, fun _ _ _ _ h => h⟩
      simp only [fz0]
      rw [if_neg (by omega), hx]
      simp only
      rw [if_pos ⟨rfl, by simp, hn⟩]
      simp
theorem Gro.is {T sz : Nat} {H h : Zb} {d : DV} {xs : List DV} (hg : Gro T sz H h d xs) : RowIs H.length T sz h d xs := by
  rcases hg.2 with h1 | ⟨g, o, h1, h2, h3⟩
  · exact .inl h1
  · exact .inr ⟨g, o, h1, h2, .inl h3⟩
theorem RowIs.low {N M T sz : Nat} {h : Zb} {d : DV} {xs : List DV} (hr : RowIs N T sz h d xs) (hm : M ≤ N) : RowIs M T sz h d xs := by
  rcases hr with h1 | ⟨g, o, h1, h2, h3⟩
  · exact .inl h1
  · exact .inr ⟨g, o, h1, by omega, h3⟩
/-- What seal.Build hands out. -/
theorem fin_seg {H h : Zb} {p1 p2 p3 p4 : Int} {Oq Cd R : DV} {os cs rs : List DV} (ht : h.take H.length = H) (hO : RowIs H.length 3 1 h Oq os) (hC : RowIs H.length 70 3 h Cd cs) (hR : RowIs H.length 3 1 h R rs) (nO : ∀ x ∈ os, Nr x) (nC : ∀ x ∈ cs, Nr x) (nR : ∀ x ∈ rs, Nr x) :
    ∃ O' C' R', fin H h [.agg [.int .i64 p1, .int .i64 p2, .int .i64 p3, .int .i64 p4, Oq, Cd], R, .int .i64 0] = (.tup [.agg [.int .i64 p1, .int .i64 p2, .int .i64 p3, .int .i64 p4, O', C'], R', .int .i64 0], H) ∧ LstIs 1 O' os ∧ LstIs 3 C' cs ∧ LstIs 1 R' rs := by
  obtain ⟨O', h1, f1, l1, k1⟩ := hO.fz nO
  obtain ⟨C', h2, f2, l2, k2⟩ := (k1 _ _ _ _ hC).fz nC
  obtain ⟨R', h3, f3, l3, k3⟩ := (k2 _ _ _ _ (k1 _ _ _ _ hR)).fz nR
  refine ⟨O', C', R', ?_, l1, l2, l3⟩
  have g3 : fz1 H.length h2 false R = some (R', h3) := by
    rcases hR with ⟨rfl, _⟩ | ⟨g, o, rfl, _, _⟩ <;> exact f3
  simp only [fin]
  rw [if_pos ht]
  have i0 : ∀ (p : Int) (g : Zb), fz0 H.length g false (.int .i64 p) = some (.int .i64 p, g) := fun _ _ => rfl
  have i1 : ∀ (p : Int) (g : Zb), fz1 H.length g false (.int .i64 p) = some (.int .i64 p, g) := fun _ _ => rfl
  have g1 : ∀ cs, fz1 H.length h false (.agg cs) = match fzL H.length cs h with | some (cs', h') => some (.agg cs', h') | none => none := fun _ => rfl
  simp only [fzT, g1, fzL, i0, i1, f1, f2, g3]
section
variable {HS : Zb} {o T : Nat}
/-- The box of a slice that grows is written. -/
theorem Gro.boxed {T1 sz : Nat} {c c' : List DV} {h : Zb} {d : DV} {xs : List DV} (hg : Gro T1 sz (HS.set o (.box T c)) h d xs) (ho : o < HS.length) : Gro T1 sz (HS.set o (.box T c')) (h.set o (.box T c')) d xs := by
  obtain ⟨ht, hr⟩ := hg
  rw [List.length_set] at ht
  refine ⟨?_, ?_⟩
  · rw [List.length_set, List.take_set, ht, List.set_set]
  · rcases hr with h1 | ⟨g, q, h1, h2, h3⟩
    · exact .inl h1
    · rw [List.length_set] at h2
      exact .inr ⟨g, q, h1, by rw [List.length_set]; exact h2, by rw [List.getElem?_set_ne (by omega)]; exact h3⟩
theorem Gro.inbox {T1 sz : Nat} {c : List DV} {h : Zb} {d : DV} {xs : List DV} (hg : Gro T1 sz (HS.set o (.box T c)) h d xs) (ho : o < HS.length) : h[o]? = some (.box T c) := pre_get hg.1 (by rw [List.getElem?_set_self ho])
end
theorem Gro.one {T sz : Nat} {H h : Zb} {d : DV} {xs : List DV} (hg : Gro T sz H h d xs) : d.one = true := by
  rcases hg.2 with ⟨rfl, _⟩ | ⟨g, o, rfl, _, _⟩ <;> rfl
abbrev sgC (p1 p2 p3 p4 : Int) (O C : DV) : List DV := [.int .i64 p1, .int .i64 p2, .int .i64 p3, .int .i64 p4, O, C]
theorem loop13_0 {HS : Zb} {A O R : DV} {a b o n : Nat} {p1 p2 p3 p4 : Int} {Z : List Nat} {zs : List Int} (ho : o < HS.length) (hR : ∀ c h, h.take HS.length = HS.set o (.box 28 c) → vw h 1 R = some (Z.map iD) ∧ vw h 1 O = some (zs.map intD)) (hZ : Z.length = n) (hn : n ≤ 1000) (hlt : ∀ z ∈ Z, z < zs.length) :
    ∀ (k i : Nat) (h : Zb) (d : DV), n - i ≤ k → i ≤ n → Gro 3 1 (HS.set o (.box 28 (sgC p1 p2 p3 p4 d .nils))) h d ((Z.take i).map fun z => intD (zs.getD z 0)) →
      ∃ ex h' d', C X (.loop lp13_0) [(2, A), (3, O), (4, .ref a 0), (8, .ref b 0), (11, .ref o 0), (12, R), (57, R), (58, .int .i64 n), (59, .int .i64 i)] h = some (.exit 1, (2, A) :: (3, O) :: (4, .ref a 0) :: (8, .ref b 0) :: (11, .ref o 0) :: (12, R) :: ex, h') ∧ Gro 3 1 (HS.set o (.box 28 (sgC p1 p2 p3 p4 d' .nils))) h' d' (Z.map fun z => intD (zs.getD z 0)) := by
  intro k
  induction k with
  | zero =>
    intro i h d hk hi hg
    obtain rfl : i = n := by omega
    refine ⟨[(57, R), (58, .int .i64 i), (59, .int .i64 i), (60, .bool false)], h, d, ?_, by rwa [List.take_of_length_le (by omega)] at hg⟩
    rw [Zf]
    unfold lp13_0
    refine rn trivial ?_
    rw [ZA]
    simp [Za, lk]
  | succ k ih =>
    intro i h d hk hi hg
    by_cases c : i < n
    case neg => exact ih i h d (by omega) hi hg
    have c' : (i : Int) < (n : Int) := by omega
    obtain ⟨I, hI'⟩ : ∃ I, I = i + 1 := ⟨_, rfl⟩
    have z1 : IntKind.i64.wrap ((i : Int) + 1) = (I : Int) := (by rw [wrap64 _ (by omega) (by omega)]; omega)
    obtain ⟨z, hz⟩ : ∃ z, Z[i]? = some z := ⟨Z[i]'(by omega), List.getElem?_eq_getElem _⟩
    have hzl := hlt z (List.mem_of_getElem? hz)
    obtain ⟨y, hy⟩ : ∃ y, zs[z]? = some y := ⟨zs[z]'hzl, List.getElem?_eq_getElem _⟩
    have hyg : zs.getD z 0 = y := by rw [List.getD_eq_getElem?_getD, hy]; rfl
    have ht := hg.1
    rw [List.length_set] at ht
    obtain ⟨vR, vO⟩ := hR _ h ht
    obtain ⟨d2, h2, ha, hg2⟩ := hg.app 8 [.int .i64 y] (by simp; omega)
    have hbox := hg.inbox ho
    have hbox2 := hg2.inbox ho
    have hd2 := hg2.one
    have hc2 := cells1 hd2
    unfold DV.cells at hc2
    have hg3 := hg2.boxed (c' := sgC p1 p2 p3 p4 d2 .nils) ho
    have hw := hg.vw
    have hd1 := hg.one
    rw [show ((Z.take i).map fun z => intD (zs.getD z 0)) ++ [DV.int .i64 y] = (Z.take I).map fun z => intD (zs.getD z 0) by
      rw [hI', ← List.take_append_getElem (by omega : i < Z.length), List.map_append]
      rw [List.getElem?_eq_getElem (by omega)] at hz
      injection hz with hz
      simp only [List.map_cons, List.map_nil, hz, hyg]] at hg3
    have y1 : ∀ h, eltL [.int .i64 y] h = some ([.int .i64 y], h) := fun _ => rfl
    have y2 : Wc 1 (.int .i64 y) := by simp [Wc, DV.cells, DV.one]
    have y3 : Nr (.int .i64 y) := .int _ _
    have y4 : ∀ h, srcOf h 1 (.list 1 [.int .i64 y] true) = some [.int .i64 y] := fun _ => rfl
    have zi : i < (Z.map iD).length := by simp; omega
    have zz : z < (zs.map intD).length := by simp; omega
    have q1 : (Z.map iD)[i]? = some (.int .i64 (z : Nat)) := by rw [List.getElem?_map, hz]; rfl
    have q2 : (zs.map intD)[z]? = some (.int .i64 y) := by rw [List.getElem?_map, hy]; rfl
    have q1' : (Z.map iD)[i] = .int .i64 (z : Nat) := by rw [List.getElem?_eq_getElem zi] at q1; injection q1
    have q2' : (zs.map intD)[z] = .int .i64 y := by rw [List.getElem?_eq_getElem zz] at q2; injection q2
    have hs : C X lp13_0 [(2, A), (3, O), (4, .ref a 0), (8, .ref b 0), (11, .ref o 0), (12, R), (57, R), (58, .int .i64 n), (59, .int .i64 i)] h = some (.norm, [(2, A), (3, O), (4, .ref a 0), (8, .ref b 0), (11, .ref o 0), (12, R), (57, R), (58, .int .i64 n), (59, .int .i64 I)], h2.set o (.box 28 (sgC p1 p2 p3 p4 d2 .nils))) := by
      clear hg hg2 hg3 ih ht hR hlt hz hy hyg
      generalize ((Z.take i).map fun z => intD (zs.getD z 0)) = xs at hw ha
      generalize Z.map iD = Zd at *
      generalize zs.map intD = zd at *
      unfold lp13_0
      refine rn0 (fA22 @c @c' @z1 @vR @vO @zi @zz @q1 @q2 @q1' @q2' @hbox @hd1 @y1 @y2 @y3 @y4 @hw @ha @hbox2 @hd2 @hc2) ?_
      simp [Za, lk]
    rw [Zf, hs, ZJ]
    exact ih I _ d2 (by omega) (by omega) hg3
theorem loop13_2 {Hh : Zb} {A R : DV} {b o n kk nc : Nat} {Z : List Nat} {ds : List DV} {rs : List (List V)} (hR : ∀ h : Zb, h.take Hh.length = Hh → vw h 1 R = some (Z.map iD) ∧ vw h 1 A = some ds ∧ ∀ (i : Nat) (d : DV) (vs : List V), ds[i]? = some d → rs[i]? = some vs → vw h 4 d = some (vs.map V.d) ∧ d.one = true) (hZ : Z.length = n) (hn : n ≤ 1000) (hdl : ds.length = rs.length) (hlt : ∀ z ∈ Z, z < rs.length) (hkk : ∀ r ∈ rs, kk < r.length) :
    ∀ (k i : Nat) (h : Zb) (d : DV), n - i ≤ k → i ≤ n → Gro 56 4 Hh h d ((colV rs (Z.take i) kk).map V.d) →
      ∃ ex h' d', C X (.loop lp13_2) [(2, A), (8, .ref b 0), (11, .ref o 0), (12, R), (15, .int .i64 kk), (16, d), (75, .int .i64 nc), (76, .int .i64 kk), (79, R), (80, .int .i64 n), (81, .int .i64 i)] h = some (.exit 5, (2, A) :: (8, .ref b 0) :: (11, .ref o 0) :: (12, R) :: (15, .int .i64 kk) :: (16, d') :: (75, .int .i64 nc) :: (76, .int .i64 kk) :: ex, h') ∧ Gro 56 4 Hh h' d' ((colV rs Z kk).map V.d) := by
  intro k
  induction k with
  | zero =>
    intro i h d hk hi hg
    obtain rfl : i = n := by omega
    refine ⟨[(79, R), (80, .int .i64 i), (81, .int .i64 i), (82, .bool false)], h, d, ?_, by rwa [List.take_of_length_le (by omega)] at hg⟩
    rw [Zf]
    unfold lp13_2
    refine rn trivial ?_
    rw [ZA]
    simp [Za, lk]
  | succ k ih =>
    intro i h d hk hi hg
    by_cases c : i < n
    case neg => exact ih i h d (by omega) hi hg
    have c' : (i : Int) < (n : Int) := by omega
    obtain ⟨I, hI'⟩ : ∃ I, I = i + 1 := ⟨_, rfl⟩
    have z1 : IntKind.i64.wrap ((i : Int) + 1) = (I : Int) := (by rw [wrap64 _ (by omega) (by omega)]; omega)
    obtain ⟨z, hz⟩ : ∃ z, Z[i]? = some z := ⟨Z[i]'(by omega), List.getElem?_eq_getElem _⟩
    have hzl := hlt z (List.mem_of_getElem? hz)
    obtain ⟨r, hr⟩ : ∃ r, rs[z]? = some r := ⟨rs[z]'hzl, List.getElem?_eq_getElem _⟩
    have hrk := hkk r (List.mem_of_getElem? hr)
    obtain ⟨v, hv⟩ : ∃ v, r[kk]? = some v := ⟨r[kk]'hrk, List.getElem?_eq_getElem _⟩
    obtain ⟨e, he⟩ : ∃ e, ds[z]? = some e := ⟨ds[z]'(by omega), List.getElem?_eq_getElem _⟩
    have hvg : (rs.getD z []).getD kk v0 = v := by simp [List.getD_eq_getElem?_getD, hr, hv]
    obtain ⟨vR, vA, vE⟩ := hR h hg.1
    obtain ⟨vr, er⟩ := vE z e r he hr
    have hcl : ((colV rs (Z.take i) kk).map V.d).length ≤ 1000 := by unfold colV; simp; omega
    obtain ⟨d2, h2, ha, hg2⟩ := hg.app 40 [v.d] (by simp only [List.length_cons, List.length_nil]; omega)
    have hw := hg.vw
    rw [show (colV rs (Z.take i) kk).map V.d ++ [v.d] = (colV rs (Z.take I) kk).map V.d by
      unfold colV
      rw [hI', ← List.take_append_getElem (by omega : i < Z.length), List.map_append]
      rw [List.getElem?_eq_getElem (by omega)] at hz
      injection hz with hz
      simp only [List.map_append, List.map_cons, List.map_nil, hz, hvg]] at hg2
    have y1 : ∀ h, eltL [v.d] h = some ([v.d], h) := fun _ => rfl
    have y2 : Wc 4 v.d := by simp [Wc, DV.cells, V.d, DV.one]
    have y3 : Nr v.d := v.nr
    have y4 : ∀ h, srcOf h 4 (.list 4 [v.d] true) = some [v.d] := fun _ => rfl
    have zi : i < (Z.map iD).length := by simp; omega
    have q1 : (Z.map iD)[i]? = some (.int .i64 (z : Nat)) := by rw [List.getElem?_map, hz]; rfl
    have q1' : (Z.map iD)[i] = .int .i64 (z : Nat) := by rw [List.getElem?_eq_getElem zi] at q1; injection q1
    have ze : z < ds.length := by omega
    have he' : ds[z] = e := by rw [List.getElem?_eq_getElem ze] at he; injection he
    have zr : kk < (r.map V.d).length := by simpa using hrk
    have q2 : (r.map V.d)[kk]? = some v.d := by rw [List.getElem?_map, hv]; rfl
    have q2' : (r.map V.d)[kk] = v.d := by rw [List.getElem?_eq_getElem zr] at q2; injection q2
    have ec := cells1 er
    unfold DV.cells at ec
    have hs : C X lp13_2 [(2, A), (8, .ref b 0), (11, .ref o 0), (12, R), (15, .int .i64 kk), (16, d), (75, .int .i64 nc), (76, .int .i64 kk), (79, R), (80, .int .i64 n), (81, .int .i64 i)] h = some (.norm, [(2, A), (8, .ref b 0), (11, .ref o 0), (12, R), (15, .int .i64 kk), (16, d2), (75, .int .i64 nc), (76, .int .i64 kk), (79, R), (80, .int .i64 n), (81, .int .i64 I)], h2) := by
      clear hg hg2 ih hR hlt hkk hz hvg vE hcl hv hr
      generalize (colV rs (Z.take i) kk).map V.d = xs at hw ha
      generalize Z.map iD = Zd at *
      generalize r.map V.d = rd at *
      obtain ⟨vk, vn, vs', vt⟩ := v
      simp only [V.d] at *
      unfold lp13_2
      refine rn0 (fA23 @c @c' @z1 @vR @vA @vr @er @ec @zi @ze @zr @he @he' @q1 @q1' @q2 @q2' @y1 @y2 @y3 @y4 @hw @ha) ?_
      simp [Za, lk]
    rw [Zf, hs, ZJ]
    exact ih I h2 d2 (by omega) (by omega) hg2
theorem RC.nr {ls : List V} {c : RC} (h : BuiltC ls c) : Nr c.d := by
  unfold RC.d
  refine .agg fun x hx => ?_
  simp only [List.mem_cons, List.mem_nil_iff, or_false] at hx
  rcases hx with rfl | rfl | rfl
  · exact .int _ _
  · rcases h.dict with h1 | ⟨h1, _⟩ <;> rw [h1]
    · exact .list (nr_vals _)
    · exact .nils
  · rw [h.B]
    refine .list fun x hx => ?_
    obtain ⟨y, _, rfl⟩ := List.mem_map.1 hx
    exact .int _ _
/-- The facts that the column loop reads. -/
structure BldV (K : Zb) (o : Nat) (R A : DV) (Z : List Nat) (ds : List DV) (rs : List (List V)) : Prop where
  rd : ∀ c h, h.take K.length = K.set o (.box 28 c) → vw h 1 R = some (Z.map iD) ∧ vw h 1 A = some ds ∧ ∀ (i : Nat) (d : DV) (vs : List V), ds[i]? = some d → rs[i]? = some vs → vw h 4 d = some (vs.map V.d) ∧ d.one = true
  ol : o < K.length
set_option maxHeartbeats 1000000 in
theorem loop13_1 {K : Zb} {A R Oq : DV} {b o n nc : Nat} {p1 p2 p3 p4 : Int} {Z : List Nat} {ds : List DV} {rs : List (List V)} (hK : BldV K o R A Z ds rs) (hO1 : Oq.one = true) (hZ : Z.length = n) (hn : n ≤ 200) (hdl : ds.length = rs.length) (hlt : ∀ z ∈ Z, z < rs.length) (hnc : ∀ r ∈ rs, r.length = nc) (hncl : nc ≤ 100) (hmay : ∀ r ∈ rs, ∀ v ∈ r, mayV v = true) :
    ∀ (q k : Nat) (h : Zb) (d : DV) (cs : List RC), nc - k ≤ q → k ≤ nc → cs.length = k → (∀ j c, cs[j]? = some c → BuiltC (colV rs Z j) c) → Gro 70 3 (K.set o (.box 28 (sgC p1 p2 p3 p4 Oq d))) h d (cs.map RC.d) →
      ∃ (ex : Env) (h' : Zb) (d' : DV) (cs' : List RC), C X (.loop lp13_1) [(2, A), (8, .ref b 0), (11, .ref o 0), (12, R), (75, .int .i64 nc), (76, .int .i64 k)] h = some (.exit 3, (2, A) :: (8, .ref b 0) :: (11, .ref o 0) :: (12, R) :: ex, h') ∧ cs'.length = nc ∧ (∀ j c, cs'[j]? = some c → BuiltC (colV rs Z j) c) ∧ Gro 70 3 (K.set o (.box 28 (sgC p1 p2 p3 p4 Oq d'))) h' d' (cs'.map RC.d) := by
  intro q
  induction q with
  | zero =>
    intro k h d cs hq hk hcl hcs hg
    obtain rfl : k = nc := by omega
    refine ⟨[(75, .int .i64 k), (76, .int .i64 k), (77, .bool false)], h, d, cs, ?_, hcl, hcs, hg⟩
    rw [Zf]
    unfold lp13_1
    refine rn trivial ?_
    rw [ZA]
    simp [Za, lk]
  | succ q ih =>
    intro k h d cs hq hk hcl hcs hg
    by_cases c : k < nc
    case neg => exact ih k h d cs (by omega) hk hcl hcs hg
    have c' : (k : Int) < (nc : Int) := by omega
    obtain ⟨k2, hk2⟩ : ∃ k2, k2 = k + 1 := ⟨_, rfl⟩
    have z1 : IntKind.i64.wrap ((k : Int) + 1) = (k2 : Int) := (by rw [wrap64 _ (by omega) (by omega)]; omega)
    have ht := hg.1
    rw [List.length_set] at ht
    have hpre : ∀ h' : Zb, h'.take h.length = h → vw h' 1 R = some (Z.map iD) ∧ vw h' 1 A = some ds ∧ ∀ (i : Nat) (d : DV) (vs : List V), ds[i]? = some d → rs[i]? = some vs → vw h' 4 d = some (vs.map V.d) ∧ d.one = true := fun h' hh => hK.rd (sgC p1 p2 p3 p4 Oq d) h' (by
      have hl : K.length ≤ h.length := by have := congrArg List.length ht; rw [List.length_take, List.length_set] at this; omega
      have e1 : h'.take K.length = (h'.take h.length).take K.length := by rw [List.take_take, Nat.min_eq_left hl]
      rw [e1, hh, ht])
    obtain ⟨vR, _, _⟩ := hpre h List.take_length
    obtain ⟨ex, h3, vd, hc, hg3⟩ := loop13_2 (b := b) (o := o) (nc := nc) (kk := k) hpre hZ (by omega) hdl hlt (fun r hr => by rw [hnc r hr]; exact c) n 0 h .nils (by omega) (by omega) Gro.zero
    rw [show ((0 : Nat) : Int) = 0 from rfl] at hc
    have hcol : (colV rs Z k).length = n := by unfold colV; rw [List.length_map, hZ]
    have hvv : ∀ g : Zb, g.take h3.length = h3 → vw g 4 vd = some ((colV rs Z k).map V.d) := fun g hh => pre_vw hh hg3.vw
    have hcm : ∀ v ∈ colV rs Z k, mayV v = true := fun v hv => by
      unfold colV at hv
      obtain ⟨z, hz, rfl⟩ := List.mem_map.1 hv
      have hzl := hlt z hz
      have hr : rs.getD z [] = rs[z] := by simp [List.getD_eq_getElem?_getD, hzl]
      rw [hr]
      have hm := List.getElem_mem hzl
      have hkl : k < rs[z].length := by rw [hnc _ hm]; exact c
      rw [List.getD_eq_getElem?_getD, List.getElem?_eq_getElem hkl]
      exact hmay _ hm _ (List.getElem_mem _)
    rcases run36r (H := h3) hvv (by omega) with ⟨Sd, ys, e36, hS, hU, hm, hyl, hm2⟩ | ⟨_, v, hv, hmv⟩
    case inr => exact absurd (hcm v hv) (by rw [hmv]; simp)
    obtain ⟨cc, hcc⟩ : ∃ cc : RC, cc = ⟨((colV rs Z k).length : Nat), ys, pack ((colV rs Z k).map (place ys)) (wC ys.length), Sd, .list 1 ((pack ((colV rs Z k).map (place ys)) (wC ys.length)).map bD) false⟩ := ⟨_, rfl⟩
    have hbc : BuiltC (colV rs Z k) cc := by
      rw [hcc]; exact ⟨rfl, rfl, hU, hm, hyl, hm2, hS, rfl⟩
    have hccd : cc.d = colD ((colV rs Z k).length : Nat) Sd (.list 1 ((pack ((colV rs Z k).map (place ys)) (wC ys.length)).map bD) false) := by rw [hcc]; rfl
    rw [← hccd] at e36
    -- the box of the column
    obtain ⟨h4, hh4⟩ : ∃ h4, h4 = h3 ++ [HO.box 70 [.int .i64 cc.n, cc.D, cc.B]] := ⟨_, rfl⟩
    have hgh : Gro 70 3 (K.set o (.box 28 (sgC p1 p2 p3 p4 Oq d))) h4 d (cs.map RC.d) := by
      obtain ⟨G, hG⟩ := take_split hg3.1
      rw [hh4, hG, List.append_assoc]
      exact hg.ext _
    obtain ⟨d2, h5, ha, hg5⟩ := hgh.app 56 [cc.d] (by simp only [List.length_map, List.length_cons, List.length_nil]; omega)
    have hb4 := hgh.inbox hK.ol
    have hb5 := hg5.inbox hK.ol
    have hb3 : h3[o]? = some (.box 28 (sgC p1 p2 p3 p4 Oq d)) := pre_get hg3.1 (hg.inbox hK.ol)
    have hd2 := hg5.one
    have hc2 := cells1 hd2
    unfold DV.cells at hc2
    have hw := hgh.vw
    have hd1 := hgh.one
    have hg6 := hg5.boxed (c' := sgC p1 p2 p3 p4 Oq d2) hK.ol
    have ebl : h4[h3.length]? = some (.box 70 [.int .i64 cc.n, cc.D, cc.B]) := by rw [hh4]; simp
    rw [show cs.map RC.d ++ [cc.d] = (cs ++ [cc]).map RC.d by rw [List.map_append]; rfl] at hg6
    have hcs2 : ∀ j c, (cs ++ [cc])[j]? = some c → BuiltC (colV rs Z j) c := fun j c hj => by
      by_cases e : j < cs.length
      · rw [List.getElem?_append_left e] at hj; exact hcs j c hj
      · have hl := (List.getElem?_eq_some_iff.1 hj).1
        rw [List.length_append, List.length_cons, List.length_nil] at hl
        have : j = cs.length := by omega
        subst this
        rw [List.getElem?_append_right (Nat.le_refl _), Nat.sub_self] at hj
        injection hj with hj
        rw [← hj, hcl]; exact hbc
    have y1 : ∀ h, eltL [cc.d] h = some ([cc.d], h) := fun h => by
      unfold RC.d
      rcases hbc.dict with h1 | ⟨h1, _⟩ <;> rw [h1, hbc.B] <;> rfl
    have y2 : Wc 3 cc.d := by
      unfold RC.d
      rcases hbc.dict with h1 | ⟨h1, _⟩ <;> rw [h1, hbc.B] <;> simp [Wc, DV.cells, DV.one]
    have y3 : Nr cc.d := RC.nr hbc
    have y4 : ∀ h, srcOf h 3 (.list 3 [cc.d] true) = some [cc.d] := fun _ => rfl
    have hD1 : cc.D.one = true := hbc.dict.one
    have hB1 : cc.B.one = true := by rw [hbc.B]; rfl
    have hs : C X lp13_1 [(2, A), (8, .ref b 0), (11, .ref o 0), (12, R), (75, .int .i64 nc), (76, .int .i64 k)] h = some (.norm, [(2, A), (8, .ref b 0), (11, .ref o 0), (12, R), (75, .int .i64 nc), (76, .int .i64 k2)], h5.set o (.box 28 (sgC p1 p2 p3 p4 Oq d2))) := by
      have hZl : (Z.map iD).length = n := by rw [List.length_map, hZ]
      clear hg hg3 hg5 hg6 hgh ih hpre hK hlt hnc hmay hcs hcs2 hbc hcm hvv hm hm2 hU hS hyl hcc hccd ht
      generalize cs.map RC.d = xs at hw ha
      generalize Z.map iD = Zd at *
      unfold RC.d at *
      obtain ⟨cn, cys, cbs, cD, cB⟩ := cc
      simp only at *
      unfold lp13_1
      refine rn (fA4 @c @c' @vR @hZl) ?_
      refine keG ?_
      rw [hc]
      subst hh4
      refine rn0 (fA17 @z1 @e36 @hb3 @hb4 @hb5 @hd1 @hd2 @hc2 @hD1 @hB1 @y1 @y2 @y3 @y4 @hw @ha @ebl) ?_
      simp [Za, lk]
    rw [Zf, hs, ZJ]
    exact ih k2 _ d2 (cs ++ [cc]) (by omega) (by omega) (by rw [List.length_append, List.length_cons, List.length_nil]; omega) hcs2 hg6
section
variable {K h : Zb} {o : Nat} {x : HO}
theorem pre_at (ht : h.take K.length = K.set o x) {j : Nat} (hj : j < K.length) (hjo : j ≠ o) : h[j]? = K[j]? := by
  have : (h.take K.length)[j]? = (K.set o x)[j]? := by rw [ht]
  rw [List.getElem?_take_of_lt hj, List.getElem?_set_ne (fun h => hjo h.symm)] at this
  exact this
theorem pre_low {H : Zb} (ht : h.take K.length = K.set o x) (hl : H.length ≤ o) (hol : o < K.length) (hK : K.take H.length = H) : h.take H.length = H := by
  have e1 : h.take H.length = (h.take K.length).take H.length := by rw [List.take_take, Nat.min_eq_left (by omega)]
  rw [e1, ht, List.take_set_of_le hl, hK]
theorem RowIs.pre {N T sz : Nat} {d : DV} {xs : List DV} (hr : RowIs N T sz K d xs) (hN : o < N) (ht : h.take K.length = K.set o x) : RowIs N T sz h d xs := by
  rcases hr with h1 | ⟨g, q, h1, h2, h3⟩
  · exact .inl h1
  · refine .inr ⟨g, q, h1, h2, ?_⟩
    have hq : q < K.length := by
      rcases h3 with h3 | h3 <;> exact (List.getElem?_eq_some_iff.1 h3).1
    rw [pre_at ht hq (by omega)]
    exact h3
theorem RowIs.set {N T sz b : Nat} {d : DV} {xs : List DV} {y : HO} (hr : RowIs N T sz h d xs) (hb : b < N) : RowIs N T sz (h.set b y) d xs := by
  rcases hr with h1 | ⟨g, q, h1, h2, h3⟩
  · exact .inl h1
  · exact .inr ⟨g, q, h1, h2, by rw [List.getElem?_set_ne (by omega)]; exact h3⟩
theorem RowIs.vw {N T sz : Nat} {d : DV} {xs : List DV} (hr : RowIs N T sz h d xs) : Go.Proofs.YtmbgfbomgbdjeaaGreatDoor.vw h sz d = some xs := by
  rcases hr with ⟨rfl, rfl⟩ | ⟨g, q, rfl, h2, h3⟩
  · rfl
  · rcases h3 with h3 | h3 <;> simp [Go.Proofs.YtmbgfbomgbdjeaaGreatDoor.vw, h3, List.take_of_length_le]
end
theorem fitV_may {c : Cl} {v : V} (h : fitV c v = true) : mayV v = true := by
  unfold fitV at h
  simp only [Bool.and_eq_true] at h
  exact h.1
theorem fitsL_may : ∀ (cs : List Cl) (vs : List V), cs.length = vs.length → fitsL cs vs = true → ∀ v ∈ vs, mayV v = true
  | [], [], _, _ => by simp
  | [], _ :: _, h, _ => by simp at h
  | _ :: _, [], h, _ => by simp at h
  | c :: cs, v :: vs, hl, h => by
    simp only [fitsL, Bool.and_eq_true] at h
    intro w hw
    rcases List.mem_cons.1 hw with rfl | hw
    · exact fitV_may h.1
    · exact fitsL_may cs vs (by simpa using hl) h.2 w hw
theorem fitsV_may {s : Sch} {r : List V} (h : fitsV s r = true) : ∀ v ∈ r, mayV v = true := by
  have hl := fitsV_len h
  unfold fitsV at h
  simp only [Bool.and_eq_true, decide_eq_true_eq] at h
  exact fitsL_may _ _ hl.symm h.2.2
theorem mat_order {d : DV} {Z : List Nat} {H : Zb} (hd : FreshI d Z) : ∃ R G, mat d H = (R, H ++ G) ∧ RowIs H.length 3 1 (H ++ G) R (Z.map iD) ∧ R.one = true := by
  rcases hd with ⟨rfl, rfl⟩ | rfl
  · exact ⟨.nils, [], by simp [mat], .inl ⟨rfl, rfl⟩, rfl⟩
  · refine ⟨.row H.length 0 0 (Z.map iD).length false, [.row 3 1 0 (Z.map iD)], by simp [mat], .inr ⟨0, H.length, rfl, Nat.le_refl _, .inl (by simp)⟩, rfl⟩
set_option maxHeartbeats 2000000 in
theorem run13 {H : Zb} {Cd A O Of Cs : DV} {s : Sch} {p1 p2 p3 p4 : Int} {ds : List DV} {rs : List (List V)} {zs : List Int} (hC : ∀ g, vw g 3 Cd = some (s.cols.map Cl.d)) (hCd1 : Cd.one = true) (hl : s.cols.length ≤ 1000) (hA1 : A.one = true) (hA : ∀ G, vw (H ++ G) 1 A = some ds) (hE : RowsG H ds rs) (hb : rs.length ≤ 200) (hO : ∀ G, vw (H ++ G) 1 O = some (zs.map intD)) (hok : BldOk s p1 p2 p3 p4 rs zs) :
    ∃ O' C' R' Z cs, E X 13 [schD Cd s, .agg [.int .i64 p1, .int .i64 p2, .int .i64 p3, .int .i64 p4, Of, Cs], A, O] H = some (.tup [.agg [.int .i64 p1, .int .i64 p2, .int .i64 p3, .int .i64 p4, O', C'], R', .int .i64 0], H) ∧ OrdZ s rs Z ∧ BldC s rs Z cs ∧ LstIs 1 R' (Z.map iD) ∧ LstIs 1 O' (Z.map fun z => intD (zs.getD z 0)) ∧ LstIs 3 C' (cs.map RC.d) := by
  obtain ⟨k1, k2, k3, k4⟩ := hok
  obtain ⟨HB, hHB⟩ : ∃ HB, HB = H ++ [HO.box 24 [Cd, .int .i64 s.key, .int .i64 s.cmp, .int .i64 s.del, .int .i64 s.sort], .box 28 [.int .i64 p1, .int .i64 p2, .int .i64 p3, .int .i64 p4, Of, Cs], .box 28 [.int .i64 0, .int .i64 0, .int .i64 0, .int .i64 0, .nils, .nils]] := ⟨_, rfl⟩
  obtain ⟨H1, hH1⟩ : ∃ H1, H1 = H ++ [HO.box 24 [Cd, .int .i64 s.key, .int .i64 s.cmp, .int .i64 s.del, .int .i64 s.sort], .box 28 [.int .i64 p1, .int .i64 p2, .int .i64 p3, .int .i64 p4, Of, Cs], .box 28 [.int .i64 0, .int .i64 0, .int .i64 0, .int .i64 0, .nils, .nils], .box 28 (sgC p1 p2 p3 p4 .nils .nils)] := ⟨_, rfl⟩
  have hAB : ∀ G, vw (HB ++ G) 1 A = some ds := fun G => by rw [hHB, List.append_assoc]; exact hA _
  have hOB : ∀ G, vw (HB ++ G) 1 O = some (zs.map intD) := fun G => by rw [hHB, List.append_assoc]; exact hO _
  have hA0 : vw HB 1 A = some ds := by have := hAB []; rwa [List.append_nil] at this
  have hO0 : vw HB 1 O = some (zs.map intD) := by have := hOB []; rwa [List.append_nil] at this
  have hEB : RowsG HB ds rs := by rw [hHB]; exact hE.ext _
  have hAH1 : ∀ G, vw (H1 ++ G) 1 A = some ds := fun G => by rw [hH1, List.append_assoc]; exact hA _
  have hEH1 : RowsG H1 ds rs := by rw [hH1]; exact hE.ext _
  have e33 := run33v p1 p2 p3 p4 Of Cs
  rw [k1] at e33
  have e34 := run34 (H := HB) (A := A) hC hl hAB hEB (by omega)
  rw [k2] at e34
  obtain ⟨b35, e35, hr35⟩ := run35 (H := HB) (L := O) (Of := Of) (Cs := Cs) (p1 := p1) (p2 := p2) (p3 := p3) (p4 := p4) hOB (by omega)
  rw [hr35.2 k4] at e35
  rcases run17 (H := H1) (Cd := Cd) (s := s) hC hCd1 hl hA1 hAH1 hEH1 (by omega) with ⟨hf, _⟩ | ⟨_, d, Z, e17, hd, hZ⟩
  case inl => rw [k2] at hf; cases hf
  have hAu : A.isU = false := by cases A <;> first | rfl | simp [DV.one] at hA1
  have hAc := cells1 hA1
  unfold DV.cells at hAc
  unfold DV.isU at hAu
  have hdl : ds.length = rs.length := hE.1
  have hlz : (zs.map intD).length = zs.length := List.length_map _
  obtain ⟨R, G, hmat, hRi, hR1⟩ := mat_order (H := H1) hd
  obtain ⟨HS, hHS⟩ : ∃ HS, HS = H1 ++ G := ⟨_, rfl⟩
  rw [← hHS] at hmat hRi
  obtain ⟨o, ho⟩ : ∃ o, o = H.length + 3 := ⟨_, rfl⟩
  have hH1l : H1.length = o + 1 := by rw [hH1, ho]; simp
  have hoS : o < HS.length := by rw [hHS, List.length_append]; omega
  have hSo : HS[o]? = some (.box 28 (sgC p1 p2 p3 p4 .nils .nils)) := by
    rw [hHS, List.getElem?_append_left (by omega), hH1, ho]; simp
  have hSH : HS.take H.length = H := by rw [hHS, hH1, List.append_assoc]; exact List.take_left
  have hZl : Z.length = rs.length := by rw [hZ.perm.length_eq]; simp
  have hlt : ∀ z ∈ Z, z < rs.length := fun z hz => List.mem_range.1 (hZ.perm.mem_iff.1 hz)
  have selfS : HS.set o (.box 28 (sgC p1 p2 p3 p4 .nils .nils)) = HS := by
    apply List.ext_getElem?
    intro j
    by_cases e : o = j
    · subst e; rw [List.getElem?_set_self hoS, hSo]
    · rw [List.getElem?_set_ne e]
  have hol : H.length ≤ o := by omega
  obtain ⟨ex0, h1, Oq, hc0, hg0⟩ := loop13_0 (HS := HS) (A := A) (O := O) (R := R) (a := H.length) (b := H.length + 2) (o := o) (n := rs.length) (p1 := p1) (p2 := p2) (p3 := p3) (p4 := p4) (Z := Z) (zs := zs) hoS (fun c h ht => by
    have hp := pre_low ht hol hoS hSH
    obtain ⟨G2, hG2⟩ := take_split hp
    exact ⟨(hRi.pre (by omega) ht).vw, by rw [hG2]; exact hO _⟩) hZl (by omega) (fun z hz => by have := hlt z hz; omega) rs.length 0 HS .nils (by omega) (by omega) (by rw [selfS]; exact Gro.zero)
  rw [show ((0 : Nat) : Int) = 0 from rfl] at hc0
  have ht1 := hg0.1
  rw [List.length_set] at ht1
  have h1l : HS.length ≤ h1.length := by have := congrArg List.length ht1; rw [List.length_take, List.length_set] at this; omega
  have ho1 : o < h1.length := by omega
  have h1o := hg0.inbox hoS
  have h1H := pre_low ht1 hol hoS hSH
  have self1 : h1.set o (.box 28 (sgC p1 p2 p3 p4 Oq .nils)) = h1 := by
    apply List.ext_getElem?
    intro j
    by_cases e : o = j
    · subst e; rw [List.getElem?_set_self ho1, h1o]
    · rw [List.getElem?_set_ne e]
  have hRi1 : RowIs (o + 1) 3 1 h1 R (Z.map iD) := by
    have := hRi.pre (by omega) ht1
    rwa [hH1l] at this
  have hOi1 : RowIs (o + 1) 3 1 h1 Oq (Z.map fun z => intD (zs.getD z 0)) := hg0.is.low (by rw [List.length_set]; omega)
  have hfits := fitA_fits k2
  have hK : BldV h1 o R A Z ds rs := ⟨fun c h ht => by
    have hp := pre_low ht hol ho1 h1H
    obtain ⟨G2, hG2⟩ := take_split hp
    refine ⟨(hRi1.pre (by omega) ht).vw, by rw [hG2]; exact hA _, fun i d vs h1 h2 => ?_⟩
    obtain ⟨q1, q2⟩ := hE.2 i d vs h1 h2
    exact ⟨by rw [hG2]; exact q1 _, q2⟩, ho1⟩
  obtain ⟨ex1, h2, Cq, cs, hc1, hcl, hcb, hg1⟩ := loop13_1 (K := h1) (A := A) (R := R) (Oq := Oq) (b := H.length + 2) (o := o) (n := rs.length) (nc := s.cols.length) (p1 := p1) (p2 := p2) (p3 := p3) (p4 := p4) (Z := Z) hK hg0.one hZl hb hdl hlt (fun r hr => fitsV_len (hfits.2 r hr)) (by have := (smayV_sort hfits.1).2.1; omega) (fun r hr => fitsV_may (hfits.2 r hr)) s.cols.length 0 h1 .nils [] (by omega) (by omega) rfl (fun j c hj => by simp at hj) (by rw [self1]; exact Gro.zero)
  rw [show ((0 : Nat) : Int) = 0 from rfl] at hc1
  have ht2 := hg1.1
  rw [List.length_set] at ht2
  have h2o := hg1.inbox ho1
  have h2H := pre_low ht2 hol ho1 h1H
  have h1a : h1[H.length]? = some (.box 24 [Cd, .int .i64 s.key, .int .i64 s.cmp, .int .i64 s.del, .int .i64 s.sort]) := by
    rw [pre_at ht1 (by omega) (by omega), hHS, List.getElem?_append_left (by omega), hH1]; simp
  have h2b : h2[H.length + 2]? = some (.box 28 [.int .i64 0, .int .i64 0, .int .i64 0, .int .i64 0, .nils, .nils]) := by
    rw [pre_at ht2 (by omega) (by omega), pre_at ht1 (by omega) (by omega), hHS, List.getElem?_append_left (by omega), hH1]; simp
  have h2l := (List.getElem?_eq_some_iff.1 h2b).1
  obtain ⟨h3, hh3⟩ : ∃ h3, h3 = h2.set (H.length + 2) (.box 28 (sgC p1 p2 p3 p4 Oq Cq)) := ⟨_, rfl⟩
  have h3b : h3[H.length + 2]? = some (.box 28 (sgC p1 p2 p3 p4 Oq Cq)) := by rw [hh3, List.getElem?_set_self h2l]
  have hOc := hg0.one
  have hCc := hg1.one
  obtain ⟨O', C', R', hfin, l1, l2, l3⟩ := fin_seg (H := H) (h := h3) (p1 := p1) (p2 := p2) (p3 := p3) (p4 := p4) (Oq := Oq) (Cd := Cq) (R := R) (by rw [hh3, List.take_set_of_le (by omega)]; exact h2H) (by rw [hh3]; exact ((hOi1.pre (by omega) ht2).set (by omega)).low (by omega)) (by rw [hh3]; exact ((hg1.is.low (M := o + 1) (by rw [List.length_set]; omega)).set (by omega)).low (by omega)) (by rw [hh3]; exact ((hRi1.pre (by omega) ht2).set (by omega)).low (by omega)) (fun x hx => by obtain ⟨y, _, rfl⟩ := List.mem_map.1 hx; exact .int _ _) (fun x hx => by
    obtain ⟨y, hy, rfl⟩ := List.mem_map.1 hx
    obtain ⟨j, hj, rfl⟩ := List.mem_iff_getElem.1 hy
    exact RC.nr (hcb j _ (List.getElem?_eq_getElem hj))) (fun x hx => by obtain ⟨y, _, rfl⟩ := List.mem_map.1 hx; exact .int _ _)
  refine ⟨O', C', R', Z, cs, ?_, hZ, ⟨hcl, hcb⟩, l3, l1, l2⟩
  have hRv : vw HS 1 R = some (Z.map iD) := hRi.vw
  have hZd : (Z.map iD).length = rs.length := by rw [List.length_map, hZl]
  have hcols : (s.cols.map Cl.d).length = s.cols.length := List.length_map _
  have m1 : ¬ (4096 : Int) < (rs.length : Int) := by omega
  have m2 : ¬ 4096 < rs.length := by omega
  clear hAB hOB hEB hAH1 hEH1 hA hO hE hr35 hRi hRi1 hOi1 hK hg0 hg1 hcb l1 l2 l3 hfits hZ ht1 ht2 h1H h2H self1 selfS hSH hlt k4
  subst hHB
  subst hH1
  subst ho
  obtain ⟨cols, k1', k2', k3', k4'⟩ := s
  simp only [schD, schC] at *
  generalize Z.map iD = Zd at *
  rcases hd with ⟨rfl, _⟩ | rfl
  · simp only [mat, Prod.mk.injEq] at hmat
    obtain ⟨rfl, rfl⟩ := hmat
    rw [ZH (X := X) _ b13 _ rfl rfl]; unfold b13
    refine rn0 (fA17 @hCd1 @hA1 @hAu @hAc @e33 @e34 @e35 @e17 @hA0 @hO0 @hdl @hlz @hZd @hRv @k3 @m1 @m2) ?_
    refine keG ?_
    rw [hc0]
    refine rn0 (fA3 @h1a @hC @hcols) ?_
    refine keG ?_
    rw [hc1]
    refine rn0 (fA4 @h2o @hOc @hCc @h2b) ?_
    rw [← hh3]
    simp only [Zv, Ya, lk, Za, List.map_cons, List.map_nil, reduceIte, Option.map_some, Nat.reduceEqDiff]
    rw [Zn, h3b]
    exact congrArg some hfin
  · simp only [mat, Prod.mk.injEq] at hmat
    obtain ⟨rfl, rfl⟩ := hmat
    simp only [List.length_append, List.length_cons, List.length_nil, Nat.zero_add, Nat.reduceAdd, List.append_assoc, List.cons_append, List.nil_append, List.length_map] at hRv hc0 hc1 hfin
    rw [ZH (X := X) _ b13 _ rfl rfl]; unfold b13
    refine rn0 (fA17 @hCd1 @hA1 @hAu @hAc @e33 @e34 @e35 @e17 @hA0 @hO0 @hdl @hlz @hZd @hRv @k3 @m1 @m2) ?_
    refine keG ?_
    rw [hc0]
    refine rn0 (fA3 @h1a @hC @hcols) ?_
    refine keG ?_
    rw [hc1]
    refine rn0 (fA4 @h2o @hOc @hCc @h2b) ?_
    rw [← hh3]
    simp only [Zv, Ya, lk, Za, List.map_cons, List.map_nil, reduceIte, Option.map_some, Nat.reduceEqDiff]
    rw [Zn, h3b]
    exact congrArg some hfin
/-- The rows in the order in which they are sealed, and their offsets. -/
def rowsZ (rs : List (List V)) (Z : List Nat) : List (List V) := Z.map fun z => rs.getD z []
def offZ (zs : List Int) (Z : List Nat) : List Int := Z.map fun z => zs.getD z 0
section
variable {s : Sch} {rs : List (List V)} {zs : List Int} {Z : List Nat} {cs : List RC} {p1 p2 p3 p4 : Int}
theorem OrdZ.len (h : OrdZ s rs Z) : Z.length = rs.length := by rw [h.perm.length_eq]; simp
theorem OrdZ.lt (h : OrdZ s rs Z) : ∀ z ∈ Z, z < rs.length := fun z hz => List.mem_range.1 (h.perm.mem_iff.1 hz)
theorem OrdZ.uniq {W : List Nat} (h : OrdZ s rs Z) (h' : OrdZ s rs W) : Z = W := by
  have ht : ∀ x y z : Nat, Lx (rowC s rs) x y → Lx (rowC s rs) y z → Lx (rowC s rs) x z := by
    intro x y z h1 h2
    have a1 := rowC_anti s rs
    have a2 := rowC_trans s rs
    unfold Lx at *
    have b1 := a2 x y z (by omega) (by omega)
    have c1 := a1 x z; have c2 := a1 z x; have c3 := a1 y z; have c4 := a1 z y; have c5 := a1 x y; have c6 := a1 y x
    by_cases e : rowC s rs x z = 0
    · have d1 := a2 z x y (by omega) (by omega)
      have d2 := a2 y z x (by omega) (by omega)
      right; omega
    · left; omega
  have hir : ∀ x : Nat, ¬ Lx (rowC s rs) x x := by
    intro x h
    have := rowC_anti s rs x x
    unfold Lx at h
    omega
  have hp : Z.Perm W := h.perm.trans h'.perm.symm
  have h1 := h.lx
  have h2 := h'.lx
  clear h h'
  induction Z generalizing W with
  | nil => exact (List.nil_perm.1 hp).symm
  | cons a Z ih =>
    cases W with
    | nil => exact absurd (List.perm_nil.1 hp) (by simp)
    | cons b W =>
      have e : a = b := by
        have ha : a ∈ b :: W := hp.mem_iff.1 (by simp)
        have hb : b ∈ a :: Z := hp.mem_iff.2 (by simp)
        rcases List.mem_cons.1 ha with e | ha
        · exact e
        rcases List.mem_cons.1 hb with e | hb
        · exact e.symm
        exact absurd (ht _ _ _ ((List.pairwise_cons.1 h1).1 b hb) ((List.pairwise_cons.1 h2).1 a ha)) (hir a)
      subst e
      rw [ih ((List.perm_cons a).1 hp) (List.pairwise_cons.1 h1).2 (List.pairwise_cons.1 h2).2]
theorem risOk_pw (h : RisOk p3 p4 zs) : zs.Pairwise (· < ·) := by
  rw [List.pairwise_iff_getElem]
  intro i j hi hj hij
  induction j with
  | zero => omega
  | succ j ih =>
    have hj' : j < zs.length := by omega
    have h1 := (h (j + 1) hj zs[j + 1] (List.getElem?_eq_getElem hj)).2.2 (by omega) zs[j] (by simp [List.getElem?_eq_getElem hj'])
    by_cases e : i = j
    · subst e; exact h1
    · exact Int.lt_trans (ih hj' (by omega)) h1
theorem offZ_get {k i : Nat} (hk : Z[k]? = some i) : (offZ zs Z)[k]? = some (zs.getD i 0) := by unfold offZ; rw [List.getElem?_map, hk]; rfl
theorem offZ_perm (h : OrdZ s rs Z) (hl : zs.length = rs.length) : (offZ zs Z).Perm zs := by
  have h1 : (offZ zs Z).Perm ((List.range zs.length).map fun z => zs.getD z 0) := by
    unfold offZ
    rw [hl]
    exact h.perm.map _
  have h2 : ((List.range zs.length).map fun z => zs.getD z 0) = zs := by
    apply List.ext_getElem
    · simp
    · intro i a b
      simp [List.getD_eq_getElem?_getD, b]
  rwa [h2] at h1
theorem srtI_perm' (ws : List Int) : (srtI ws).Perm ws := List.mergeSort_perm _ _
theorem srtI_up (ws : List Int) : (srtI ws).Pairwise (· ≤ ·) := by
  have := List.pairwise_mergeSort (le := fun (x y : Int) => decide (x ≤ y)) (fun a b c h1 h2 => by simp at *; omega) (fun a b => by simp; omega) ws
  unfold srtI
  exact this.imp (fun h => by simpa using h)
theorem le_uniq : ∀ {xs ys : List Int}, xs.Perm ys → xs.Pairwise (· ≤ ·) → ys.Pairwise (· ≤ ·) → xs = ys := by
  intro xs
  induction xs with
  | nil => intro ys hp _ _; exact (List.nil_perm.1 hp).symm
  | cons a xs ih =>
    intro ys hp h1 h2
    cases ys with
    | nil => exact absurd (List.perm_nil.1 hp) (by simp)
    | cons b ys =>
      have e : a = b := by
        have ha : a ∈ b :: ys := hp.mem_iff.1 (by simp)
        have hb : b ∈ a :: xs := hp.mem_iff.2 (by simp)
        rcases List.mem_cons.1 ha with e | ha
        · exact e
        rcases List.mem_cons.1 hb with e | hb
        · exact e.symm
        have := (List.pairwise_cons.1 h1).1 b hb
        have := (List.pairwise_cons.1 h2).1 a ha
        omega
      subst e
      rw [ih ((List.perm_cons a).1 hp) (List.pairwise_cons.1 h1).2 (List.pairwise_cons.1 h2).2]
theorem offZ_srt (h : OrdZ s rs Z) (hl : zs.length = rs.length) (hr : RisOk p3 p4 zs) : srtI (offZ zs Z) = zs :=
  le_uniq ((srtI_perm' _).trans (offZ_perm h hl)) (srtI_up _) ((risOk_pw hr).imp (fun h => by omega))
theorem colV_len (k : Nat) : (colV rs Z k).length = Z.length := by simp [colV]
theorem built_rows (hC : BldC s rs Z cs) (hlen : ∀ r ∈ rs, r.length = s.cols.length) (hZ : ∀ z ∈ Z, z < rs.length) (hl : Z.length ≤ 200) : rowsS (cs.map RC.sc) Z.length = rowsZ rs Z := by
  apply List.ext_getElem
  · simp [rowsS, rowsZ]
  · intro i h1 h2
    have hi : i < Z.length := by simpa [rowsZ] using h2
    have hzi := hZ _ (List.getElem_mem hi)
    have hr : rs.getD Z[i] [] = rs[Z[i]] := by simp [List.getD_eq_getElem?_getD, hzi]
    have hrl := hlen _ (List.getElem_mem hzi)
    have e1 : (rowsS (cs.map RC.sc) Z.length)[i] = (cs.map RC.sc).map fun c => c.val i := by simp [rowsS, rowS]
    have e2 : (rowsZ rs Z)[i] = rs.getD Z[i] [] := by simp [rowsZ]
    rw [e1, e2, hr]
    apply List.ext_getElem
    · simp [hC.len, hrl]
    · intro k k1 k2
      have hk : k < cs.length := by simpa using k1
      have hb := hC.col k _ (List.getElem?_eq_getElem hk)
      simp only [List.getElem_map]
      apply hb.val (by rw [colV_len]; exact hl)
      unfold colV
      rw [List.getElem?_map, List.getElem?_eq_getElem hi]
      simp only [Option.map_some]
      rw [hr, List.getD_eq_getElem?_getD, List.getElem?_eq_getElem k2]
      rfl
theorem fitA_perm (hf : fitA s rs = true) (hZ : ∀ z ∈ Z, z < rs.length) : fitA s (rowsZ rs Z) = true := by
  obtain ⟨h1, h2⟩ := fitA_fits hf
  unfold fitA
  simp only [Bool.and_eq_true, Bool.not_eq_true', List.any_eq_false]
  refine ⟨h1, fun r hr => ?_⟩
  unfold rowsZ at hr
  obtain ⟨z, hz, rfl⟩ := List.mem_map.1 hr
  have hzi := hZ z hz
  have e : rs.getD z [] = rs[z] := by simp [List.getD_eq_getElem?_getD, hzi]
  rw [e, h2 _ (List.getElem_mem hzi)]
  simp
/-- What is built may be. -/
theorem built_may (hok : BldOk s p1 p2 p3 p4 rs zs) (hZ : OrdZ s rs Z) (hC : BldC s rs Z cs) (hb : rs.length ≤ 200) : MayOk s p1 p2 p3 p4 (offZ zs Z) cs := by
  obtain ⟨k1, k2, k3, k4⟩ := hok
  have hfits := fitA_fits k2
  have hlen : ∀ r ∈ rs, r.length = s.cols.length := fun r hr => fitsV_len (hfits.2 r hr)
  have hZl := hZ.len
  have hol : (offZ zs Z).length = Z.length := by simp [offZ]
  have hrows := built_rows hC hlen hZ.lt (by omega)
  refine ⟨fun c hc => ?_, k1, hC.len, ?_, ?_, fun j h1 h2 => ?_⟩
  · obtain ⟨k, hk, rfl⟩ := List.mem_iff_getElem.1 hc
    have hbc := hC.col k _ (List.getElem?_eq_getElem hk)
    refine ⟨by rw [hbc.n, colV_len, hol], hbc.okC (by rw [colV_len]; omega)⟩
  · rw [hol, hrows]; exact fitA_perm k2 hZ.lt
  · rw [offZ_srt hZ k3 k4]; exact k4
  · rw [hol] at h2 ⊢
    rw [hrows]
    have hj1 : j - 1 < Z.length := by omega
    have g1 : (rowsZ rs Z).getD (j - 1) [] = rs.getD Z[j - 1] [] := by simp [rowsZ, List.getD_eq_getElem?_getD, hj1]
    have g2 : (rowsZ rs Z).getD j [] = rs.getD Z[j] [] := by simp [rowsZ, List.getD_eq_getElem?_getD, h2]
    have g3 : (offZ zs Z).getD (j - 1) 0 = zs.getD Z[j - 1] 0 := by simp [offZ, List.getD_eq_getElem?_getD, hj1]
    have g4 : (offZ zs Z).getD j 0 = zs.getD Z[j] 0 := by simp [offZ, List.getD_eq_getElem?_getD, h2]
    unfold MayAt
    rw [g1, g2, g3, g4]
    have hx : Lx (rowC s rs) Z[j - 1] Z[j] := (List.pairwise_iff_getElem.1 hZ.lx) (j - 1) j hj1 h2 (by omega)
    have hz1 := hZ.lt _ (List.getElem_mem hj1)
    have hz2 := hZ.lt _ (List.getElem_mem h2)
    have hup := List.pairwise_iff_getElem.1 (risOk_pw k4)
    unfold Lx rowC at hx
    refine ⟨by omega, fun h0 => ?_⟩
    rcases hx with hx | ⟨_, hx⟩
    · omega
    · have := hup Z[j - 1] Z[j] (by omega) (by omega) hx
      simpa [List.getD_eq_getElem?_getD, (by omega : Z[j - 1] < zs.length), (by omega : Z[j] < zs.length)] using this
end
theorem LstIs.numsA {d : DV} {ws : List Int} {xs : List DV} (h : LstIs 1 d xs) (hx : xs = ws.map intD) : NumsA d ws := by
  rcases h with ⟨rfl, h0⟩ | rfl
  · left
    refine ⟨rfl, ?_⟩
    rw [h0] at hx
    exact List.map_eq_nil_iff.1 hx.symm
  · right; rw [hx]
theorem LstIs.vw {sz : Nat} {d : DV} {xs : List DV} (h : LstIs sz d xs) (g : Zb) : vw g sz d = some xs := by
  rcases h with ⟨rfl, rfl⟩ | rfl
  · rfl
  · simp [Go.Proofs.YtmbgfbomgbdjeaaGreatDoor.vw]
theorem LstIs.one {sz : Nat} {d : DV} {xs : List DV} (h : LstIs sz d xs) : d.one = true := by
  rcases h with ⟨rfl, rfl⟩ | rfl <;> rfl
theorem offZ_d (zs : List Int) (Z : List Nat) : (Z.map fun z => intD (zs.getD z 0)) = (offZ zs Z).map intD := by simp [offZ]
/-- The chapter's schema and rows. -/
def smS : Sch := ⟨[⟨⟨#[107]⟩, 1, false⟩, ⟨⟨#[118]⟩, 2, true⟩], -1, -1, -1, 0⟩
def vI7 : V := ⟨1, 7, ⟨#[]⟩, false⟩
def vI3 : V := ⟨1, 3, ⟨#[]⟩, false⟩
def rsS : List (List V) := [[vI7, v0], [vI3, v0], [vI7, v0]]
theorem smS_fit : fitA smS rsS = true := by decide
theorem smS_ris : RisOk 0 9 [2, 4, 6] := by
  intro j hj x hx
  match j, hj with
  | 0, _ => simp at hx; subst hx; simp
  | 1, _ => simp at hx; subst hx; simp
  | 2, _ => simp at hx; subst hx; simp
theorem smS_ord : OrdZ smS rsS [1, 0, 2] := by
  refine ⟨by decide, ?_⟩
  have h1 : rowC smS rsS 1 0 < 0 := by decide
  have h2 : rowC smS rsS 1 2 < 0 := by decide
  have h3 : rowC smS rsS 0 2 = 0 := by decide
  simp [Lx, h1, h2, h3]
def cdS : DV := .list 3 (smS.cols.map Cl.d) true
theorem run31 (H : Zb) : E X 31 [] H = some (.agg [cdS, .int .i64 (-1), .int .i64 (-1), .int .i64 (-1), .int .i64 (-1)], H) := by
  unfold cdS
  simp only [smS, List.map_cons, List.map_nil]
  have y1 : ∀ a b c d e f h, eltL [.agg [.str a, .int .i64 b, .bool c], .agg [.str d, .int .i64 e, .bool f]] h = some ([.agg [.str a, .int .i64 b, .bool c], .agg [.str d, .int .i64 e, .bool f]], h) := fun _ _ _ _ _ _ _ => rfl
  have y2 : ∀ a b c, Wc 3 (.agg [.str a, .int .i64 b, .bool c]) := fun a b c => by simp [Wc, DV.cells, DV.one]
  have y3 : ∀ a b c, Nr (.agg [.str a, .int .i64 b, .bool c]) := fun a b c => .agg (fun x hx => by
    simp only [List.mem_cons, List.mem_nil_iff, or_false] at hx
    rcases hx with rfl | rfl | rfl
    · exact .str _
    · exact .int _ _
    · exact .bool _)
  rw [ZH (X := X) _ b31 _ rfl rfl]; unfold b31; exact rg (fA3 @y1 @y2 @y3)
set_option maxHeartbeats 1000000 in
theorem run9 (H : Zb) : E X 9 [] H = some (.bool true, H) := by
  have e31 := run31
  have hCd1 : cdS.one = true := rfl
  have hCd : ∀ g, vw g 3 cdS = some (smS.cols.map Cl.d) := fun _ => rfl
  obtain ⟨ds, hds⟩ : ∃ ds, ds = rsS.map fun r => DV.list 4 (r.map V.d) true := ⟨_, rfl⟩
  obtain ⟨HB, hHB⟩ : ∃ HB, HB = H ++ [HO.box 24 [cdS, .int .i64 (-1), .int .i64 (-1), .int .i64 (-1), .int .i64 0]] := ⟨_, rfl⟩
  have hE : RowsG HB ds rsS := by
    refine ⟨by rw [hds]; simp, fun i d vs h1 h2 => ?_⟩
    rw [hds, List.getElem?_map, h2] at h1
    injection h1 with h1
    subst h1
    exact ⟨fun _ => rfl, rfl⟩
  have hok : BldOk smS 0 1 0 9 rsS [2, 4, 6] := ⟨by decide, smS_fit, rfl, smS_ris⟩
  obtain ⟨O', C', R', Z, cs, e13, hZ, hC, l1, l2, l3⟩ := run13 (H := HB) (Cd := cdS) (A := .list 1 ds true) (O := .list 1 ([2, 4, 6].map intD) true) (Of := .nils) (Cs := .nils) (s := smS) (p1 := 0) (p2 := 1) (p3 := 0) (p4 := 9) (ds := ds) (rs := rsS) (zs := [2, 4, 6]) hCd hCd1 (by decide) rfl (fun _ => rfl) hE (by decide) (fun _ => rfl) hok
  obtain rfl : Z = [1, 0, 2] := hZ.uniq smS_ord
  have hoff : offZ [2, 4, 6] [1, 0, 2] = [4, 2, 6] := rfl
  rw [offZ_d, hoff] at l2
  have hmay := built_may hok hZ hC (by decide)
  rw [hoff] at hmay
  have hcok : ∀ c ∈ cs, c.Ok := fun c hc => by
    obtain ⟨k, hk, rfl⟩ := List.mem_iff_getElem.1 hc
    exact (hC.col k _ (List.getElem?_eq_getElem hk)).ok (by rw [colV_len]; decide)
  have hcl : cs.length = 2 := hC.len
  have e26 : ∀ g, E X 26 [schD cdS smS, .agg [.int .i64 0, .int .i64 1, .int .i64 0, .int .i64 9, O', C']] g = some (.bool true, g) := fun g => by
    obtain ⟨r, h1, h2⟩ := run26v (H := g) (Cd := cdS) (Of := O') (Cs := C') (s := smS) (p1 := 0) (p2 := 1) (p3 := 0) (p4 := 9) (zs := [4, 2, 6]) (cs := cs) hCd (by decide) (l2.numsA rfl) l3.vw hcok (by decide) (by omega) hCd1
    rw [h1, h2.2 hmay]
  obtain ⟨HC, hHC⟩ : ∃ HC, HC = HB ++ [HO.box 28 [.int .i64 0, .int .i64 1, .int .i64 0, .int .i64 9, O', C']] := ⟨_, rfl⟩
  obtain ⟨A, G, ds2, e24, hA⟩ := run24 (H := HC) (p1 := 0) (p2 := 1) (p3 := 0) (p4 := 9) l2.vw l3.vw hcok (by decide) (by omega) hmay.all (by omega)
  have hdl : ds2.length = 3 := by rw [hA.rows.1]; simp [rowsS]
  have hAv : vw (HC ++ G) 1 A = some ds2 := by have := hA.v []; rwa [List.append_nil] at this
  have e16 := fun g => run16 (h := g) (A := R') (B := .list 1 [.int .i64 1, .int .i64 0, .int .i64 2] true) (xs := [1, 0, 2]) (ys := [1, 0, 2]) (l1.vw g) rfl (by decide)
  have e16' := fun g => run16 (h := g) (A := O') (B := .list 1 [.int .i64 4, .int .i64 2, .int .i64 6] true) (xs := [4, 2, 6]) (ys := [4, 2, 6]) (l2.vw g) rfl (by decide)
  have o1 := l2.one
  have o2 := l3.one
  have o3 := l1.one
  have hfin : fin H (HC ++ G) [.bool true] = (.bool true, H) := by
    have : (HC ++ G).take H.length = H := by rw [hHC, hHB, List.append_assoc, List.append_assoc]; exact List.take_left
    simp [fin, this, fz1, fz0]
  simp only [decide_true] at e16 e16'
  have hsh : (A = .list 1 ds2 false ∧ G = []) ∨ ∃ o, A = .row o 0 0 ds2.length false := by
    rcases hA.sh with ⟨h1, h2, _⟩ | ⟨o, h1, _⟩
    · exact .inl ⟨h1, h2⟩
    · exact .inr ⟨o, h1⟩
  clear hA hmay hcok hC hZ l1 l2 l3 hE hok hcl
  subst hds
  subst hHC
  subst hHB
  simp only [schD, schC, smS, rsS, List.map_cons, List.map_nil, vI7, vI3, v0, V.d, List.append_assoc, List.cons_append, List.nil_append] at *
  generalize cdS = Cd at *
  have y1 : ∀ (a b a' b' : Int) c d c' d' h, eltL [.agg [.int .i64 a, .int .i64 b, .str c, .bool d], .agg [.int .i64 a', .int .i64 b', .str c', .bool d']] h = some ([.agg [.int .i64 a, .int .i64 b, .str c, .bool d], .agg [.int .i64 a', .int .i64 b', .str c', .bool d']], h) := fun _ _ _ _ _ _ _ _ _ => rfl
  have y2 : ∀ (a b : Int) c d, Wc 4 (.agg [.int .i64 a, .int .i64 b, .str c, .bool d]) := fun a b c d => by simp [Wc, DV.cells, DV.one]
  have y3 : ∀ (a b : Int) c d, Nr (.agg [.int .i64 a, .int .i64 b, .str c, .bool d]) := fun a b c d => V.nr ⟨a, b, c, d⟩
  have y4 : ∀ l1 l2 l3 h, eltL [.list 4 l1 true, .list 4 l2 true, .list 4 l3 true] h = some ([.list 4 l1 true, .list 4 l2 true, .list 4 l3 true], h) := fun _ _ _ _ => rfl
  have y5 : ∀ l, Wc 1 (.list 4 l true) := fun l => by simp [Wc, DV.cells, DV.one]
  have y6 : ∀ (a b a' b' : Int) c d c' d', Nr (.list 4 [.agg [.int .i64 a, .int .i64 b, .str c, .bool d], .agg [.int .i64 a', .int .i64 b', .str c', .bool d']] true) := fun a b a' b' c d c' d' => .list (fun x hx => by
    simp only [List.mem_cons, List.mem_nil_iff, or_false] at hx
    rcases hx with rfl | rfl
    · exact y3 _ _ _ _
    · exact y3 _ _ _ _)
  have y7 : ∀ (a b c : Int) h, eltL [.int .i64 a, .int .i64 b, .int .i64 c] h = some ([.int .i64 a, .int .i64 b, .int .i64 c], h) := fun _ _ _ _ => rfl
  have y8 : ∀ (a : Int), Wc 1 (.int .i64 a) := fun a => by simp [Wc, DV.cells, DV.one]
  have y9 : ∀ (a : Int), Nr (.int .i64 a) := fun a => .int _ _
  rcases hsh with ⟨rfl, rfl⟩ | ⟨o, rfl⟩
  · try simp only [List.append_nil] at e24 hAv hfin
    rw [ZH (X := X) _ b9 _ rfl rfl]; unfold b9
    refine rn0 (fA21 @e31 @hCd1 @y1 @y2 @y3 @y4 @y5 @y6 @y7 @y8 @y9 @e13 @o1 @o2 @o3 @e16 @e16' @e26 @e24 @hAv @hdl) ?_
    exact re @hfin
  · rw [hdl] at e24 hAv
    rw [ZH (X := X) _ b9 _ rfl rfl]; unfold b9
    refine rn0 (fA21 @e31 @hCd1 @y1 @y2 @y3 @y4 @y5 @y6 @y7 @y8 @y9 @e13 @o1 @o2 @o3 @e16 @e16' @e26 @e24 @hAv @hdl) ?_
    exact re @hfin
/-- A record: its row, as it is held, and its offset. -/
structure Rc where
  d : DV
  vs : List V
  off : Int
def Rc.r (x : Rc) : DV := .agg [x.d, .int .i64 x.off]
structure RecL (L : DV) (xs : List Rc) : Prop where
  v : ∀ g, vw g 2 L = some (xs.map Rc.r)
  row : ∀ x ∈ xs, ValL x.d x.vs
theorem loop11 {h : Zb} {L : DV} {xs : List Rc} (hL : RecL L xs) (hb : xs.length ≤ 60) :
    ∀ (q i : Nat), xs.length - i ≤ q → i ≤ xs.length → ((∃ ex, C X (.loop lp11_0) [(0, L), (3, .int .i64 i)] h = some (.exit 0, ex, h)) ∧ ∀ j x, i ≤ j → xs[j]? = some x → lightB x.vs = true) ∨ C X (.loop lp11_0) [(0, L), (3, .int .i64 i)] h = some (.ret, [(2, .int .i64 1)], h) := by
  have hv := hL.v h
  have hxl : (xs.map Rc.r).length = xs.length := List.length_map _
  intro q
  induction q with
  | zero =>
    intro i hq hi
    obtain rfl : i = xs.length := by omega
    left
    refine ⟨?_, fun j x h1 h2 => by have := (List.getElem?_eq_some_iff.1 h2).1; omega⟩
    rw [Zf]
    unfold lp11_0
    refine rn (fA2 @hv @hxl) ?_
    rw [ZA]
    exact ⟨_, rfl⟩
  | succ q ih =>
    intro i hq hi
    by_cases c : i < xs.length
    case neg => exact ih i (by omega) hi
    have c' : (i : Int) < (xs.length : Int) := by omega
    obtain ⟨I, hI⟩ : ∃ I, I = i + 1 := ⟨_, rfl⟩
    have z1 : IntKind.i64.wrap ((i : Int) + 1) = (I : Int) := (by rw [wrap64 _ (by omega) (by omega)]; omega)
    obtain ⟨x, hx⟩ : ∃ x, xs[i]? = some x := ⟨xs[i], List.getElem?_eq_getElem c⟩
    have hxr := hL.row x (List.mem_of_getElem? hx)
    have e32 := run32 (h := h) (hxr.vw h)
    have q1 : (xs.map Rc.r)[i]? = some (.agg [x.d, .int .i64 x.off]) := by rw [List.getElem?_map, hx]; rfl
    have zi : i < (xs.map Rc.r).length := by omega
    have q1' : (xs.map Rc.r)[i] = .agg [x.d, .int .i64 x.off] := by rw [List.getElem?_eq_getElem zi] at q1; injection q1
    have o1 := hxr.one
    generalize xs.map Rc.r = xd at *
    cases hl : lightB x.vs
    · right
      rw [hl] at e32
      have hs : C X lp11_0 [(0, L), (3, .int .i64 i)] h = some (.ret, [(2, .int .i64 1)], h) := by
        clear ih hL hxr hl
        unfold lp11_0
        refine rn0 (fA10 @c @c' @z1 @hv @hxl @q1 @q1' @zi @o1 @e32) ?_
        simp [Za, lk]
      rw [Zf, hs, lp_ret]
    · rw [hl] at e32
      have hs : C X lp11_0 [(0, L), (3, .int .i64 i)] h = some (.norm, [(0, L), (3, .int .i64 I)], h) := by
        clear ih hL hxr hl
        unfold lp11_0
        refine rn0 (fA10 @c @c' @z1 @hv @hxl @q1 @q1' @zi @o1 @e32) ?_
        simp [Za, lk]
      rw [Zf, hs, ZJ]
      rcases ih I (by omega) (by omega) with ⟨h1, h2⟩ | h1
      · refine .inl ⟨h1, fun j y h3 h4 => ?_⟩
        by_cases e : j = i
        · subst e; rw [hx] at h4; injection h4 with h4; rw [← h4]; exact hl
        · exact h2 j y (by omega) h4
      · exact .inr h1
theorem run11 {L : DV} {xs : List Rc} (hL : RecL L xs) (H : Zb) : ∃ k : Int, E X 11 [L] H = some (.int .i64 k, H) ∧ (¬ 0 < k → xs.length ≤ 60 ∧ ∀ x ∈ xs, lightB x.vs = true) := by
  have hv := hL.v H
  have hxl : (xs.map Rc.r).length = xs.length := List.length_map _
  by_cases c : 60 < xs.length
  · have c' : (60 : Int) < (xs.length : Int) := by omega
    refine ⟨1, ?_, fun h => absurd (by omega) h⟩
    generalize xs.map Rc.r = xd at *
    rw [ZH (X := X) _ b11 _ rfl rfl]; unfold b11; exact rg (fA4 @hv @hxl @c @c')
  have c' : ¬ (60 : Int) < (xs.length : Int) := by omega
  rcases loop11 (h := H) hL (by omega) xs.length 0 (by omega) (by omega) with ⟨⟨ex, hc⟩, hl⟩ | hc
  · refine ⟨0, ?_, fun _ => ⟨by omega, fun x hx => ?_⟩⟩
    · rw [show ((0 : Nat) : Int) = 0 from rfl] at hc
      generalize xs.map Rc.r = xd at *
      rw [ZH (X := X) _ b11 _ rfl rfl]; unfold b11
      refine rn (fA4 @hv @hxl @c @c') ?_
      refine keG ?_
      rw [hc]
      refine rn trivial ?_
      exact re @hv
    · obtain ⟨j, hj, rfl⟩ := List.mem_iff_getElem.1 hx
      exact hl j _ (Nat.zero_le _) (List.getElem?_eq_getElem hj)
  · refine ⟨1, ?_, fun h => absurd (by omega) h⟩
    rw [show ((0 : Nat) : Int) = 0 from rfl] at hc
    generalize xs.map Rc.r = xd at *
    rw [ZH (X := X) _ b11 _ rfl rfl]; unfold b11
    refine rn (fA4 @hv @hxl @c @c') ?_
    refine keG ?_
    rw [hc]
    refine rn trivial ?_
    exact re @hv
/-- A slice that grows, beside others. -/
def RowG (N T sz : Nat) (h : Zb) (d : DV) (xs : List DV) : Prop := (d = .nils ∧ xs = []) ∨ ∃ g o, d = .row o g 0 xs.length false ∧ N ≤ o ∧ h[o]? = some (.row T sz g xs)
theorem RowG.is {N T sz : Nat} {h : Zb} {d : DV} {xs : List DV} (hr : RowG N T sz h d xs) : RowIs N T sz h d xs := by
  rcases hr with h1 | ⟨g, o, h1, h2, h3⟩
  · exact .inl h1
  · exact .inr ⟨g, o, h1, h2, .inl h3⟩
def OffR (a o : DV) : Prop := ∀ q g m q' g' m', a = .row q g 0 m false → o = .row q' g' 0 m' false → q ≠ q'
theorem app2 {T sz T' sz' b : Nat} {H h : Zb} {a o : DV} {xs ys : List DV} (ht : h.take H.length = H) (ha : RowG H.length T sz h a xs) (ho : RowG H.length T' sz' h o ys) (hd : OffR a o) (x : DV) (hb : (xs.length + 1) * b ≤ 140737488355328) :
    ∃ a' h', appx h T sz b a xs [x] = some (a', h') ∧ h'.take H.length = H ∧ RowG H.length T sz h' a' (xs ++ [x]) ∧ RowG H.length T' sz' h' o ys ∧ OffR a' o := by
  rcases ha with ⟨rfl, rfl⟩ | ⟨g, q, rfl, hq, hx⟩
  · refine ⟨.row h.length 0 0 1 false, h ++ [.row T sz 0 [x]], ?_, ?_, .inr ⟨0, h.length, rfl, take_leG ht, by simp⟩, ?_, ?_⟩
    · simp only [appx]
      rw [if_neg (by simp), if_pos (by simpa using hb)]
      rfl
    · rw [List.take_append_of_le_length (take_leG ht)]; exact ht
    · rcases ho with h1 | ⟨g, o, h1, h2, h3⟩
      · exact .inl h1
      · exact .inr ⟨g, o, h1, h2, hle h3 _⟩
    · intro q g m q' g' m' h1 h2
      injection h1 with h1
      rcases ho with ⟨h3, _⟩ | ⟨g2, o2, h3, h4, h5⟩
      · rw [h3] at h2; cases h2
      · rw [h3] at h2
        injection h2 with h2
        have := (List.getElem?_eq_some_iff.1 h5).1
        omega
  · have hl := (List.getElem?_eq_some_iff.1 hx).1
    refine ⟨.row q (g + 1) 0 (xs.length + 1) false, h.set q (.row T sz (g + 1) (xs ++ [x])), ?_, ?_, .inr ⟨g + 1, q, by simp, hq, by rw [List.getElem?_set_self hl]⟩, ?_, ?_⟩
    · simp only [appx]
      rw [if_neg (by simp), if_pos (by simpa using hb), hx]
      simp
    · rw [List.take_set_of_le hq]; exact ht
    · rcases ho with h1 | ⟨g2, o2, h1, h2, h3⟩
      · exact .inl h1
      · exact .inr ⟨g2, o2, h1, h2, by rw [List.getElem?_set_ne (hd q g _ o2 g2 _ rfl h1)]; exact h3⟩
    · intro q1 g1 m1 q' g' m' h1 h2
      injection h1 with h1
      rw [← h1]
      exact hd q g _ q' g' m' rfl h2
theorem OffR.symm {a o : DV} (h : OffR a o) : OffR o a := fun q g m q' g' m' h1 h2 e => h q' g' m' q g m h2 h1 e.symm
theorem fin_two {H h : Zb} {a o : DV} {T sz T' sz' : Nat} {xs ys : List DV} (ht : h.take H.length = H) (ha : RowIs H.length T sz h a xs) (ho : RowIs H.length T' sz' h o ys) (n1 : ∀ x ∈ xs, Nr x) (n2 : ∀ x ∈ ys, Nr x) : ∃ A O, fin H h [a, o] = (.tup [A, O], H) ∧ LstIs sz A xs ∧ LstIs sz' O ys := by
  obtain ⟨A, h1, f1, l1, k1⟩ := ha.fz n1
  obtain ⟨O, h2, f2, l2, k2⟩ := (k1 _ _ _ _ ho).fz n2
  refine ⟨A, O, ?_, l1, l2⟩
  have g1 : fz1 H.length h false a = some (A, h1) := by
    rcases ha with ⟨rfl, _⟩ | ⟨g, q, rfl, _, _⟩ <;> exact f1
  have g2 : fz1 H.length h1 false o = some (O, h2) := by
    rcases ho with ⟨rfl, _⟩ | ⟨g, q, rfl, _, _⟩ <;> exact f2
  simp only [fin]
  rw [if_pos ht]
  simp only [fzT, g1, g2]
theorem ValL.nr {d : DV} {vs : List V} (h : ValL d vs) : Nr d := by
  rcases h with rfl | ⟨rfl, _⟩
  · exact .list (nr_vals _)
  · exact .nils
theorem loop12 {H : Zb} {L : DV} {xs : List Rc} (hL : RecL L xs) (hb : xs.length ≤ 1000) :
    ∀ (q i : Nat) (h : Zb) (a o : DV), xs.length - i ≤ q → i ≤ xs.length → h.take H.length = H → RowG H.length 45 1 h a ((xs.take i).map Rc.d) → RowG H.length 3 1 h o ((xs.take i).map fun x => intD x.off) → OffR a o →
      ∃ ex h' a' o', C X (.loop lp12_0) [(0, L), (4, a), (5, o), (6, .int .i64 i)] h = some (.exit 0, (0, L) :: (4, a') :: (5, o') :: ex, h') ∧ h'.take H.length = H ∧ RowG H.length 45 1 h' a' (xs.map Rc.d) ∧ RowG H.length 3 1 h' o' (xs.map fun x => intD x.off) := by
  have hv := hL.v
  have hxl : (xs.map Rc.r).length = xs.length := List.length_map _
  intro q
  induction q with
  | zero =>
    intro i h a o hq hi ht ha ho hd
    obtain rfl : i = xs.length := by omega
    rw [List.take_length] at ha ho
    refine ⟨[(6, .int .i64 xs.length), (10, .bool false)], h, a, o, ?_, ht, ha, ho⟩
    rw [Zf]
    unfold lp12_0
    refine rn (fA2 @hv @hxl) ?_
    rw [ZA]
    simp [Za, lk]
  | succ q ih =>
    intro i h a o hq hi ht ha ho hd
    by_cases c : i < xs.length
    case neg => exact ih i h a o (by omega) hi ht ha ho hd
    have c' : (i : Int) < (xs.length : Int) := by omega
    obtain ⟨I, hI⟩ : ∃ I, I = i + 1 := ⟨_, rfl⟩
    have z1 : IntKind.i64.wrap ((i : Int) + 1) = (I : Int) := (by rw [wrap64 _ (by omega) (by omega)]; omega)
    obtain ⟨x, hx⟩ : ∃ x, xs[i]? = some x := ⟨xs[i], List.getElem?_eq_getElem c⟩
    have hxe : xs[i] = x := by rw [List.getElem?_eq_getElem c] at hx; injection hx
    have hxr := hL.row x (List.mem_of_getElem? hx)
    obtain ⟨a2, h2, p1, t2, ra, ro, d2⟩ := app2 (b := 24) ht ha ho hd x.d (by simp; omega)
    obtain ⟨o2, h3, p2, t3, ro2, ra2, d3⟩ := app2 (b := 8) t2 ro ra d2.symm (intD x.off) (by simp; omega)
    have e1 : (xs.take i).map Rc.d ++ [x.d] = (xs.take I).map Rc.d := by
      rw [hI, ← List.take_append_getElem c, List.map_append, hxe]; rfl
    have e2 : ((xs.take i).map fun x => intD x.off) ++ [intD x.off] = (xs.take I).map fun x => intD x.off := by
      rw [hI, ← List.take_append_getElem c, List.map_append, hxe]; rfl
    rw [e1] at ra2
    rw [e2] at ro2
    have wa : vw h 1 a = some ((xs.take i).map Rc.d) := ha.is.vw
    have wo : vw h2 1 o = some ((xs.take i).map fun x => intD x.off) := ro.is.vw
    have q1 : (xs.map Rc.r)[i]? = some (.agg [x.d, .int .i64 x.off]) := by rw [List.getElem?_map, hx]; rfl
    have zi : i < (xs.map Rc.r).length := by omega
    have q1' : (xs.map Rc.r)[i] = .agg [x.d, .int .i64 x.off] := by rw [List.getElem?_eq_getElem zi] at q1; injection q1
    have o1 := hxr.one
    have hc1 := cells1 o1
    have y1 : ∀ h, eltL [x.d] h = some ([x.d], h) := fun h => by rcases hxr with e | ⟨e, _⟩ <;> rw [e] <;> rfl
    have y2 : Wc 1 x.d := by unfold Wc; rw [hc1]; exact ⟨rfl, fun c hc => by rw [List.mem_singleton.1 hc]; exact o1⟩
    have y3 : Nr x.d := hxr.nr
    have y4 : ∀ h (e : DV), srcOf h 1 (.list 1 [e] true) = some [e] := fun _ _ => rfl
    have y5 : ∀ h (n : Int), eltL [.int .i64 n] h = some ([.int .i64 n], h) := fun _ _ => rfl
    have y6 : ∀ (n : Int), Wc 1 (.int .i64 n) := fun n => by simp [Wc, DV.cells, DV.one]
    have y7 : ∀ (n : Int), Nr (.int .i64 n) := fun n => .int _ _
    unfold DV.cells at hc1
    have hs : C X lp12_0 [(0, L), (4, a), (5, o), (6, .int .i64 i)] h = some (.norm, [(0, L), (4, a2), (5, o2), (6, .int .i64 I)], h3) := by
      clear ih hL hxr ha ho ra ro ra2 ro2 e1 e2 ht t2 t3 hxe
      generalize (xs.take i).map Rc.d = xa at wa p1
      generalize ((xs.take i).map fun x => intD x.off) = xo at wo p2
      generalize xs.map Rc.r = xd at *
      unfold lp12_0
      refine rn0 (fA21 @c @c' @z1 @hv @hxl @q1 @q1' @zi @o1 @hc1 @y1 @y2 @y3 @y4 @y5 @y6 @y7 @wa @wo @p1 @p2) ?_
      simp [Za, lk]
    rw [Zf, hs, ZJ]
    exact ih I h3 a2 o2 (by omega) (by omega) t3 ra2 ro2 d3.symm
theorem run12 {L : DV} {xs : List Rc} (hL : RecL L xs) (hb : xs.length ≤ 1000) (H : Zb) : ∃ A O, E X 12 [L] H = some (.tup [A, O], H) ∧ LstIs 1 A (xs.map Rc.d) ∧ LstIs 1 O (xs.map fun x => intD x.off) := by
  obtain ⟨ex, h, a, o, hc, ht, ha, ho⟩ := loop12 hL hb xs.length 0 H .nils .nils (by omega) (by omega) List.take_length (.inl ⟨rfl, rfl⟩) (.inl ⟨rfl, rfl⟩) (fun _ _ _ _ _ _ h => by cases h)
  rw [show ((0 : Nat) : Int) = 0 from rfl] at hc
  obtain ⟨A, O, hf, l1, l2⟩ := fin_two ht ha.is ho.is (fun x hx => by
    obtain ⟨y, hy, rfl⟩ := List.mem_map.1 hx
    exact (hL.row y hy).nr) (fun x hx => by
    obtain ⟨y, hy, rfl⟩ := List.mem_map.1 hx
    exact .int _ _)
  refine ⟨A, O, ?_, l1, l2⟩
  rw [ZH (X := X) _ b12 _ rfl rfl]; unfold b12
  refine rn trivial ?_
  refine keG ?_
  rw [hc]
  refine rn trivial ?_
  simp only [Zv, Ya, lk, Za, List.map_cons, List.map_nil, reduceIte, Option.map_some, Nat.reduceEqDiff, hf]
theorem rec_rows {xs : List Rc} (hr : ∀ x ∈ xs, ValL x.d x.vs) (H : Zb) : RowsG H (xs.map Rc.d) (xs.map Rc.vs) := by
  refine ⟨by simp, fun i d vs h1 h2 => ?_⟩
  rw [List.getElem?_map] at h1 h2
  cases hx : xs[i]? with
  | none => rw [hx] at h1; cases h1
  | some x =>
    rw [hx] at h1 h2
    injection h1 with h1
    injection h2 with h2
    subst h1; subst h2
    have := hr x (List.mem_of_getElem? hx)
    exact ⟨fun L => this.vw _, this.one⟩
/-- Columns of the same contents. -/
structure TwinC (n : Nat) (az bs : List RC) : Prop where
  la : az.length = n
  lb : bs.length = n
  oa : ∀ c ∈ az, c.Ok
  ob : ∀ c ∈ bs, c.Ok
  eq : ∀ (k : Nat) (c d : RC), az[k]? = some c → bs[k]? = some d → c.n = d.n ∧ c.ys = d.ys ∧ c.bs = d.bs
theorem loop15 {h : Zb} {O1 O2 C1 C2 : DV} {p1 p2 p3 p4 q1 q2 q3 q4 : Int} {a b n : Nat} {az bs : List RC} (hT : TwinC n az bs) (hn : n ≤ 1000) (h1 : ∀ g, vw g 3 C1 = some (az.map RC.d)) (h2 : ∀ g, vw g 3 C2 = some (bs.map RC.d)) (ha : h[a]? = some (.box 28 [.int .i64 p1, .int .i64 p2, .int .i64 p3, .int .i64 p4, O1, C1])) (hb : h[b]? = some (.box 28 [.int .i64 q1, .int .i64 q2, .int .i64 q3, .int .i64 q4, O2, C2])) :
    ∀ (q i : Nat), n - i ≤ q → i ≤ n → ∃ ex, C X (.loop lp15_0) [(2, .ref a 0), (3, .ref b 0), (6, .int .i64 i)] h = some (.exit 0, ex, h) := by
  have hal : (az.map RC.d).length = n := by rw [List.length_map, hT.la]
  have hbl : (bs.map RC.d).length = n := by rw [List.length_map, hT.lb]
  intro q
  induction q with
  | zero =>
    intro i hq hi
    obtain rfl : i = n := by omega
    have hal' := hT.la
    rw [Zf]
    unfold lp15_0
    refine rn (fA5 @ha @hb @h1 @hal @hal') ?_
    rw [ZA]
    exact ⟨_, rfl⟩
  | succ q ih =>
    intro i hq hi
    by_cases c : i < n
    case neg => exact ih i (by omega) hi
    have c' : (i : Int) < (n : Int) := by omega
    obtain ⟨I, hI⟩ : ∃ I, I = i + 1 := ⟨_, rfl⟩
    have z1 : IntKind.i64.wrap ((i : Int) + 1) = (I : Int) := (by rw [wrap64 _ (by omega) (by omega)]; omega)
    have hal' := hT.la
    have hbl' := hT.lb
    have ia : i < az.length := by omega
    have ib : i < bs.length := by omega
    obtain ⟨x, hx⟩ : ∃ x, x = az[i] := ⟨_, rfl⟩
    obtain ⟨y, hy⟩ : ∃ y, y = bs[i] := ⟨_, rfl⟩
    have hxd : az[i].d = .agg [.int .i64 x.n, x.D, x.B] := by rw [← hx]; rfl
    have hyd : bs[i].d = .agg [.int .i64 x.n, y.D, y.B] := by
      rw [← hy, (hT.eq i x y (by rw [hx]; exact List.getElem?_eq_getElem ia) (by rw [hy]; exact List.getElem?_eq_getElem ib)).1]; rfl
    obtain ⟨_, g2, g3⟩ := hT.eq i x y (by rw [hx]; exact List.getElem?_eq_getElem ia) (by rw [hy]; exact List.getElem?_eq_getElem ib)
    have hxo := hT.oa x (by rw [hx]; exact List.getElem_mem ia)
    have hyo := hT.ob y (by rw [hy]; exact List.getElem_mem ib)
    have e39 : ∀ g, E X 39 [.agg [.int .i64 x.n, x.D, x.B], .agg [.int .i64 x.n, y.D, y.B]] g = some (.bool true, g) := fun g =>
      run39 (h := g) (n := x.n) hxo.dict.vw (by rw [g2]; exact hyo.dict.vw) hxo.bytes.vw (by rw [g3]; exact hyo.bytes.vw) (by have := hxo.yl; omega) (by have := hxo.bl; omega)
    have hD1 := hxo.dict.one
    have hB1 := hxo.bytes.one'
    have hD2 := hyo.dict.one
    have hB2 := hyo.bytes.one'
    have hs : C X lp15_0 [(2, .ref a 0), (3, .ref b 0), (6, .int .i64 i)] h = some (.norm, [(2, .ref a 0), (3, .ref b 0), (6, .int .i64 I)], h) := by
      clear ih hT hxo hyo g2 g3
      unfold lp15_0
      refine rn0 (fA20 @c @c' @ia @ib @hal' @hbl' @z1 @ha @hb @h1 @h2 @hxd @hyd @hD1 @hD2 @hB1 @hB2 @hal @hbl @e39) ?_
      simp [Za, lk]
    rw [Zf, hs, ZJ]
    exact ih I (by omega) (by omega)
theorem run15 {H : Zb} {O1 O2 C1 C2 : DV} {p1 p2 p3 p4 : Int} {n : Nat} {zs : List Int} {az bs : List RC} (hT : TwinC n az bs) (hn : n ≤ 1000) (h1 : ∀ g, vw g 3 C1 = some (az.map RC.d)) (h2 : ∀ g, vw g 3 C2 = some (bs.map RC.d)) (o1 : ∀ G, vw (H ++ G) 1 O1 = some (zs.map intD)) (o2 : ∀ G, vw (H ++ G) 1 O2 = some (zs.map intD)) (hz : zs.length ≤ 1000) :
    E X 15 [.agg [.int .i64 p1, .int .i64 p2, .int .i64 p3, .int .i64 p4, O1, C1], .agg [.int .i64 p1, .int .i64 p2, .int .i64 p3, .int .i64 p4, O2, C2]] H = some (.bool true, H) := by
  obtain ⟨H1, hH1⟩ : ∃ H1, H1 = H ++ [HO.box 28 [.int .i64 p1, .int .i64 p2, .int .i64 p3, .int .i64 p4, O1, C1], HO.box 28 [.int .i64 p1, .int .i64 p2, .int .i64 p3, .int .i64 p4, O2, C2]] := ⟨_, rfl⟩
  have hal : (az.map RC.d).length = n := by rw [List.length_map, hT.la]
  have hbl : (bs.map RC.d).length = n := by rw [List.length_map, hT.lb]
  have hal' := hT.la
  have hbl' := hT.lb
  have q1 : vw H1 1 O1 = some (zs.map intD) := by rw [hH1]; exact o1 _
  have q2 : vw H1 1 O2 = some (zs.map intD) := by rw [hH1]; exact o2 _
  have e16 := run16 (h := H1) (xs := zs) (ys := zs) q1 q2 (by omega)
  rw [decide_eq_true rfl] at e16
  obtain ⟨ex, hc⟩ := loop15 (h := H1) (p1 := p1) (p2 := p2) (p3 := p3) (p4 := p4) (q1 := p1) (q2 := p2) (q3 := p3) (q4 := p4) (O1 := O1) (O2 := O2) (a := H.length) (b := H.length + 1) hT hn h1 h2 (by rw [hH1]; simp) (by rw [hH1]; simp) n 0 (by omega) (by omega)
  rw [show ((0 : Nat) : Int) = 0 from rfl] at hc
  have ht1 : H1.take H.length = H := by rw [hH1]; exact List.take_left
  have hf : fin H H1 [.bool true] = (.bool true, H) := by simp [fin, ht1, fz1, fz0]
  have n0 : ((n : Int) != (n : Int)) = false := by simp
  have n1 : (p1 != p1) = false := by simp
  have n2 : (p2 != p2) = false := by simp
  have n3 : (p3 != p3) = false := by simp
  have n4 : (p4 != p4) = false := by simp
  clear hT q1 q2 o1 o2 ht1
  subst hH1
  rw [ZH (X := X) _ b15 _ rfl rfl]; unfold b15
  refine rn0 (fA12 @e16 @h1 @h2 @hal @hbl @hal' @hbl' @n0 @n1 @n2 @n3 @n4) ?_
  refine keG ?_
  rw [hc]
  refine rn trivial ?_
  simp only [Zv, Ya, lk, Za, List.map_cons, List.map_nil, reduceIte, Option.map_some, Nat.reduceEqDiff, hf]
def bkH (Hb : Zb) (cur : List DV) : Zb := Hb ++ [.row 45 1 0 cur]
theorem bkH_row (Hb : Zb) (cur : List DV) : (bkH Hb cur)[Hb.length]? = some (.row 45 1 0 cur) := by simp [bkH]
theorem bkH_set (Hb : Zb) (cur cur' : List DV) : (bkH Hb cur).set Hb.length (.row 45 1 0 cur') = bkH Hb cur' := by simp [bkH]
theorem loop7_1 {Hb : Zb} {O A Oy Cy d3 d4 e : DV} {a n i z : Nat} {p1 p2 p3 p4 : Int} {zs wz : List Int} {gds : List DV} (hO : ∀ L, vw (Hb ++ L) 1 O = some (zs.map intD)) (hzl : zs.length = n) (ha : Hb[a]? = some (.box 28 [.int .i64 p1, .int .i64 p2, .int .i64 p3, .int .i64 p4, Oy, Cy])) (hOy : ∀ L, vw (Hb ++ L) 1 Oy = some (wz.map intD)) (hwl : wz.length = n) (hA : ∀ L, vw (Hb ++ L) 1 A = some gds) (hgl : gds.length = n) (hi : i < n) (he : gds[i]? = some e) (he1 : e.one = true) (hz : ∀ k, k < n → (zs.getD k 0 = wz.getD i 0 ↔ k = z)) (hn : n ≤ 1000) :
    ∀ (q k : Nat) (cur : List DV), cur.length = n → (∀ d ∈ cur, d.one = true) → n - k ≤ q → k ≤ n → ∃ ex, C X (.loop lp7_1) [(3, d3), (4, d4), (10, O), (11, .ref a 0), (14, A), (15, .row Hb.length 0 0 n false), (16, .int .i64 i), (17, .int .i64 k)] (bkH Hb cur) = some (.exit 2, (3, d3) :: (4, d4) :: (10, O) :: (11, .ref a 0) :: (14, A) :: (15, .row Hb.length 0 0 n false) :: (16, .int .i64 i) :: ex, bkH Hb (if k ≤ z then cur.set z e else cur)) := by
  intro q
  have hi' : (i : Int) < (n : Int) := by omega
  have hge : gds[i]'(by omega) = e := by rw [List.getElem?_eq_getElem (by omega)] at he; injection he
  have hec : e.cells = [e] := cells1 he1
  have hec2 := hec
  unfold DV.cells at hec2
  have hzl' : (zs.map intD).length = n := by rw [List.length_map]; exact hzl
  have hwl' : (wz.map intD).length = n := by rw [List.length_map]; exact hwl
  have iw : i < wz.length := by omega
  obtain ⟨w, hw⟩ : ∃ w, w = wz[i] := ⟨_, rfl⟩
  have hw' : wz[i] = w := hw.symm
  have hwg : wz.getD i 0 = w := by rw [List.getD_eq_getElem?_getD, List.getElem?_eq_getElem iw, hw]; rfl
  rw [hwg] at hz
  induction q with
  | zero =>
    intro k cur hc hone hq hk
    obtain rfl : k = n := by omega
    have hO0 := hO [.row 45 1 0 cur]
    have hlen : ¬ k ≤ z ∨ cur.set z e = cur := by
      by_cases c : k ≤ z
      · exact .inr (List.set_eq_of_length_le (by omega))
      · exact .inl c
    have hfin : (if k ≤ z then cur.set z e else cur) = cur := by
      rcases hlen with h | h
      · rw [if_neg h]
      · rw [h]; simp
    rw [hfin]
    unfold bkH
    refine ⟨[(17, .int .i64 k), (67, .bool false)], ?_⟩
    rw [Zf]
    unfold lp7_1
    refine rn (fA3 @hO0 @hzl' @hzl) ?_
    rw [ZA]
    simp [Za, lk]
  | succ q ih =>
    intro k cur hc hone hq hk
    by_cases c : k < n
    case neg => exact ih k cur hc hone (by omega) hk
    have c' : (k : Int) < (n : Int) := by omega
    obtain ⟨K, hK⟩ : ∃ K, K = k + 1 := ⟨_, rfl⟩
    have z1 : IntKind.i64.wrap ((k : Int) + 1) = (K : Int) := (by rw [wrap64 _ (by omega) (by omega)]; omega)
    have kz : k < zs.length := by omega
    obtain ⟨v, hv⟩ : ∃ v, v = zs[k] := ⟨_, rfl⟩
    have hv' : zs[k] = v := hv.symm
    have hvg : zs.getD k 0 = v := by rw [List.getD_eq_getElem?_getD, List.getElem?_eq_getElem kz, hv]; rfl
    have hzk := hz k c
    rw [hvg] at hzk
    have hO0 : vw (bkH Hb cur) 1 O = some (zs.map intD) := hO _
    have hA0 : vw (bkH Hb cur) 1 A = some gds := hA _
    have hOy0 : vw (bkH Hb cur) 1 Oy = some (wz.map intD) := hOy _
    have ha0 : (bkH Hb cur)[a]? = some (.box 28 [.int .i64 p1, .int .i64 p2, .int .i64 p3, .int .i64 p4, Oy, Cy]) := by
      unfold bkH
      rw [List.getElem?_append_left (List.getElem?_eq_some_iff.1 ha).1]; exact ha
    have hB0 : vw (bkH Hb cur) 1 (.row Hb.length 0 0 n false) = some cur := by rw [← hc]; simp [vw, bkH_row]
    by_cases cz : v = w
    · have hkz := hzk.1 cz
      have kc : k < cur.length := by omega
      have hst : stx (bkH Hb cur) 1 (.elem (.row Hb.length 0 0 n false) 1 k 0) e = some (bkH Hb (cur.set k e)) := by
        rw [rowG_wr (bkH_row Hb cur) hc (List.getElem?_eq_getElem kc) (hone _ (List.getElem_mem kc)) he1 hec, bkH_set]
      have hs : C X lp7_1 [(3, d3), (4, d4), (10, O), (11, .ref a 0), (14, A), (15, .row Hb.length 0 0 n false), (16, .int .i64 i), (17, .int .i64 k)] (bkH Hb cur) = some (.norm, [(3, d3), (4, d4), (10, O), (11, .ref a 0), (14, A), (15, .row Hb.length 0 0 n false), (16, .int .i64 i), (17, .int .i64 K)], bkH Hb (cur.set k e)) := by
        clear ih hz hzk hO hA hOy ha
        subst cz
        generalize bkH Hb cur = h at *
        generalize bkH Hb (cur.set k e) = h2 at *
        unfold lp7_1
        refine rn21 (fA24 @c @c' @z1 @kz @iw @hi @hi' @hO0 @hA0 @hOy0 @ha0 @hB0 @hc @hzl' @hwl' @hzl @hwl @hgl @hge @hec2 @he1 @hv' @hw' @hst) ?_
        simp [Za, lk]
      rw [Zf, hs, ZJ]
      obtain ⟨ex, h1⟩ := ih K (cur.set k e) (by rw [List.length_set]; exact hc) (fun d hd => by rcases List.mem_or_eq_of_mem_set hd with h | rfl; exact hone _ h; exact he1) (by omega) (by omega)
      refine ⟨ex, ?_⟩
      rw [h1, if_neg (by omega), if_pos (by omega), hkz]
    · have hkz : k ≠ z := fun h => cz (hzk.2 h)
      have cz' : (v == w) = false := by simp [cz]
      have hs : C X lp7_1 [(3, d3), (4, d4), (10, O), (11, .ref a 0), (14, A), (15, .row Hb.length 0 0 n false), (16, .int .i64 i), (17, .int .i64 k)] (bkH Hb cur) = some (.norm, [(3, d3), (4, d4), (10, O), (11, .ref a 0), (14, A), (15, .row Hb.length 0 0 n false), (16, .int .i64 i), (17, .int .i64 K)], bkH Hb cur) := by
        clear ih hz hzk hO hA hOy ha
        generalize bkH Hb cur = h at *
        unfold lp7_1
        refine rn21 (fA25 @c @c' @z1 @kz @iw @hi @hi' @hO0 @hA0 @hOy0 @ha0 @hB0 @hc @hzl' @hwl' @hzl @hwl @hgl @hge @hec2 @he1 @hv' @hw' @cz @cz') ?_
        simp [Za, lk]
      rw [Zf, hs, ZJ]
      obtain ⟨ex, h1⟩ := ih K cur hc hone (by omega) (by omega)
      refine ⟨ex, ?_⟩
      rw [h1]
      by_cases c3 : k ≤ z
      · rw [if_pos (by omega), if_pos c3]
      · rw [if_neg (by omega), if_neg c3]
def bkL (n : Nat) (Z : List Nat) (gds : List DV) : Nat → List DV
  | 0 => List.replicate n .nils
  | j + 1 => (bkL n Z gds j).set (Z.getD j 0) (gds.getD j .nils)
theorem bkL_len (n : Nat) (Z : List Nat) (gds : List DV) : ∀ j, (bkL n Z gds j).length = n
  | 0 => by simp [bkL]
  | j + 1 => by rw [bkL, List.length_set]; exact bkL_len n Z gds j
theorem bkL_one {n : Nat} {Z : List Nat} {gds : List DV} (h : ∀ d ∈ gds, d.one = true) : ∀ j, ∀ d ∈ bkL n Z gds j, d.one = true
  | 0, d, hd => by rw [(List.mem_replicate.1 hd).2]; rfl
  | j + 1, d, hd => by
    rw [bkL] at hd
    rcases List.mem_or_eq_of_mem_set hd with h1 | rfl
    · exact bkL_one h j d h1
    · rw [List.getD_eq_getElem?_getD]
      cases hg : gds[j]? with
      | none => rfl
      | some x => exact h x (List.mem_of_getElem? hg)
theorem bkL_get {n : Nat} {Z : List Nat} {gds : List DV} (hlt : ∀ z ∈ Z, z < n) (hnd : Z.Nodup) (hl : Z.length = gds.length) : ∀ (j i k : Nat), j ≤ Z.length → i < j → Z[i]? = some k → (bkL n Z gds j)[k]? = gds[i]?
  | 0, i, k, _, h, _ => by omega
  | j + 1, i, k, hj, hi, hz => by
    have hk := hlt k (List.mem_of_getElem? hz)
    rw [bkL]
    have hjl : j < Z.length := by omega
    have e1 : Z.getD j 0 = Z[j] := by rw [List.getD_eq_getElem?_getD, List.getElem?_eq_getElem hjl]; rfl
    have hil := (List.getElem?_eq_some_iff.1 hz).1
    have e2 : Z[i] = k := (List.getElem?_eq_some_iff.1 hz).2
    rw [e1]
    by_cases c : i = j
    · subst c
      rw [e2, List.getElem?_set_self (by rw [bkL_len]; exact hk), List.getD_eq_getElem?_getD, List.getElem?_eq_getElem (by omega)]
      rfl
    · have hne : Z[j] ≠ k := fun h => by
        rcases Nat.lt_or_gt_of_ne c with c2 | c2
        · exact (List.pairwise_iff_getElem.1 hnd) i j hil hjl c2 (e2.trans h.symm)
        · omega
      rw [List.getElem?_set_ne hne]
      exact bkL_get hlt hnd hl j i k (by omega) (by omega) hz
theorem loop7_0 {Hb : Zb} {O A Oy Cy d3 d4 : DV} {a n : Nat} {p1 p2 p3 p4 : Int} {zs wz : List Int} {Z : List Nat} {gds : List DV} (hO : ∀ L, vw (Hb ++ L) 1 O = some (zs.map intD)) (hzl : zs.length = n) (ha : Hb[a]? = some (.box 28 [.int .i64 p1, .int .i64 p2, .int .i64 p3, .int .i64 p4, Oy, Cy])) (hOy : ∀ L, vw (Hb ++ L) 1 Oy = some (wz.map intD)) (hwl : wz.length = n) (hA : ∀ L, vw (Hb ++ L) 1 A = some gds) (hgl : gds.length = n) (hg1 : ∀ d ∈ gds, d.one = true) (hlt : ∀ i, i < n → Z.getD i 0 < n) (hz : ∀ i k, i < n → k < n → (zs.getD k 0 = wz.getD i 0 ↔ k = Z.getD i 0)) (hn : n ≤ 1000) :
    ∀ (q j : Nat), n - j ≤ q → j ≤ n → ∃ ex, C X (.loop lp7_0) [(3, d3), (4, d4), (10, O), (11, .ref a 0), (14, A), (15, .row Hb.length 0 0 n false), (16, .int .i64 j)] (bkH Hb (bkL n Z gds j)) = some (.exit 0, (3, d3) :: (4, d4) :: (10, O) :: (11, .ref a 0) :: (14, A) :: (15, .row Hb.length 0 0 n false) :: ex, bkH Hb (bkL n Z gds n)) := by
  have hwl' : (wz.map intD).length = n := by rw [List.length_map]; exact hwl
  have hat : ∀ cur : List DV, (bkH Hb cur)[a]? = some (.box 28 [.int .i64 p1, .int .i64 p2, .int .i64 p3, .int .i64 p4, Oy, Cy]) := fun cur => by
    unfold bkH
    rw [List.getElem?_append_left (List.getElem?_eq_some_iff.1 ha).1]; exact ha
  intro q
  induction q with
  | zero =>
    intro j hq hj
    obtain rfl : j = n := by omega
    have hOy0 : vw (bkH Hb (bkL j Z gds j)) 1 Oy = some (wz.map intD) := hOy _
    have ha0 := hat (bkL j Z gds j)
    refine ⟨[(16, .int .i64 j), (61, .bool false)], ?_⟩
    clear hat hO hA hOy hz
    generalize bkH Hb (bkL j Z gds j) = h at *
    rw [Zf]
    unfold lp7_0
    refine rn (fA4 @hOy0 @ha0 @hwl @hwl') ?_
    rw [ZA]
    simp [Za, lk]
  | succ q ih =>
    intro j hq hj
    by_cases c : j < n
    case neg => exact ih j (by omega) hj
    have c' : (j : Int) < (n : Int) := by omega
    obtain ⟨J, hJ⟩ : ∃ J, J = j + 1 := ⟨_, rfl⟩
    have z1 : IntKind.i64.wrap ((j : Int) + 1) = (J : Int) := (by rw [wrap64 _ (by omega) (by omega)]; omega)
    have jg : j < gds.length := by omega
    obtain ⟨e, he⟩ : ∃ e, gds[j]? = some e := ⟨gds[j], List.getElem?_eq_getElem jg⟩
    obtain ⟨ex, hc⟩ := loop7_1 (Hb := Hb) (d3 := d3) (d4 := d4) (a := a) (n := n) (i := j) (z := Z.getD j 0) hO hzl ha hOy hwl hA hgl c he (hg1 e (List.mem_of_getElem? he)) (fun k hk => hz j k c hk) hn n 0 (bkL n Z gds j) (bkL_len _ _ _ _) (bkL_one hg1 j) (by omega) (by omega)
    rw [if_pos (Nat.zero_le _), show ((0 : Nat) : Int) = 0 from rfl] at hc
    have hnx : (bkL n Z gds j).set (Z.getD j 0) e = bkL n Z gds J := by
      rw [hJ, bkL, List.getD_eq_getElem?_getD (l := gds), he]; rfl
    rw [hnx] at hc
    have hOy0 : vw (bkH Hb (bkL n Z gds j)) 1 Oy = some (wz.map intD) := hOy _
    have ha0 := hat (bkL n Z gds j)
    have hs : C X lp7_0 [(3, d3), (4, d4), (10, O), (11, .ref a 0), (14, A), (15, .row Hb.length 0 0 n false), (16, .int .i64 j)] (bkH Hb (bkL n Z gds j)) = some (.norm, [(3, d3), (4, d4), (10, O), (11, .ref a 0), (14, A), (15, .row Hb.length 0 0 n false), (16, .int .i64 J)], bkH Hb (bkL n Z gds J)) := by
      clear ih hat hO hA hOy hz hnx
      generalize bkH Hb (bkL n Z gds j) = h at *
      generalize bkH Hb (bkL n Z gds J) = h2 at *
      unfold lp7_0
      refine rn (fA7 @c @c' @z1 @hOy0 @ha0 @hwl @hwl') ?_
      refine keG ?_
      rw [hc]
      refine rn @z1 ?_
      simp [Za, lk]
    rw [Zf, hs, ZJ]
    exact ih J (by omega) (by omega)
/-- What was put back are the rows. -/
theorem bk_rows {Hb : Zb} {n : Nat} {rs : List (List V)} {Z : List Nat} {gds : List DV} (hp : Z.Perm (List.range rs.length)) (hE : RowsG Hb gds (rowsZ rs Z)) (hn : rs.length = n) : RowsG (bkH Hb (bkL n Z gds n)) (bkL n Z gds n) rs := by
  have hnd : Z.Nodup := hp.nodup_iff.2 List.nodup_range
  have hlt : ∀ z ∈ Z, z < n := fun z hz => by have := List.mem_range.1 (hp.mem_iff.1 hz); omega
  have hZl : Z.length = n := by rw [hp.length_eq, List.length_range, hn]
  have hgl : Z.length = gds.length := by rw [hE.1]; simp [rowsZ]
  refine ⟨by rw [bkL_len, hn], fun k d vs h1 h2 => ?_⟩
  have hk : k < n := by have := (List.getElem?_eq_some_iff.1 h2).1; omega
  obtain ⟨i, hi⟩ := List.mem_iff_getElem?.1 (hp.mem_iff.2 (List.mem_range.2 (by omega)) : k ∈ Z)
  have hil := (List.getElem?_eq_some_iff.1 hi).1
  rw [bkL_get hlt hnd hgl n i k (by omega) (by omega) hi] at h1
  have h3 : (rowsZ rs Z)[i]? = some vs := by
    unfold rowsZ
    rw [List.getElem?_map, hi]
    simp [List.getD_eq_getElem?_getD, h2]
  obtain ⟨g1, g2⟩ := hE.2 i d vs h1 h3
  exact ⟨fun L => by unfold bkH; rw [List.append_assoc]; exact g1 _, g2⟩
theorem twin_of {s : Sch} {rs : List (List V)} {Z : List Nat} {az bs : List RC} (hA : BldC s rs Z az) (hB : BldC s rs Z bs) (hl : Z.length ≤ 200) : TwinC s.cols.length az bs :=
  ⟨hA.len, hB.len, fun c hc => by
    obtain ⟨k, hk, rfl⟩ := List.mem_iff_getElem.1 hc
    exact (hA.col k _ (List.getElem?_eq_getElem hk)).ok (by rw [colV_len]; omega), fun c hc => by
    obtain ⟨k, hk, rfl⟩ := List.mem_iff_getElem.1 hc
    exact (hB.col k _ (List.getElem?_eq_getElem hk)).ok (by rw [colV_len]; omega), fun k c d h1 h2 => (hA.col k c h1).same (hB.col k d h2)⟩
theorem off_inj {zs : List Int} (h : zs.Pairwise (· < ·)) {k z : Nat} (hk : k < zs.length) (hz : z < zs.length) : zs.getD k 0 = zs.getD z 0 ↔ k = z := by
  have e1 : zs.getD k 0 = zs[k] := by rw [List.getD_eq_getElem?_getD, List.getElem?_eq_getElem hk]; rfl
  have e2 : zs.getD z 0 = zs[z] := by rw [List.getD_eq_getElem?_getD, List.getElem?_eq_getElem hz]; rfl
  rw [e1, e2]
  constructor
  · intro h2
    rcases Nat.lt_trichotomy k z with c | c | c
    · have := List.pairwise_iff_getElem.1 h k z hk hz c; omega
    · exact c
    · have := List.pairwise_iff_getElem.1 h z k hz hk c; omega
  · rintro rfl; rfl
theorem off_at {zs : List Int} {Z : List Nat} {i : Nat} (hi : i < Z.length) : (offZ zs Z).getD i 0 = zs.getD (Z.getD i 0) 0 := by
  have e1 : Z.getD i 0 = Z[i] := by rw [List.getD_eq_getElem?_getD, List.getElem?_eq_getElem hi]; rfl
  rw [e1, List.getD_eq_getElem?_getD, offZ_get (List.getElem?_eq_getElem hi)]
  rfl
set_option maxHeartbeats 2000000 in
theorem run7 {Cd Of Cs L : DV} {s : Sch} {p1 p2 p3 p4 : Int} {xs : List Rc} (hS : ∀ g, vw g 3 Cd = some (s.cols.map Cl.d)) (hCd1 : Cd.one = true) (hOf1 : Of.one = true) (hCs1 : Cs.one = true) (hL : RecL L xs) : ∃ h', E X 7 [schD Cd s, .agg [.int .i64 p1, .int .i64 p2, .int .i64 p3, .int .i64 p4, Of, Cs], L] [] = some (.bool true, h') := by
  obtain ⟨HL, hHL⟩ : ∃ HL : Zb, HL = [.box 24 [Cd, .int .i64 s.key, .int .i64 s.cmp, .int .i64 s.del, .int .i64 s.sort], .box 28 [.int .i64 p1, .int .i64 p2, .int .i64 p3, .int .i64 p4, Of, Cs]] := ⟨_, rfl⟩
  have e9 := run9
  have hLv := hL.v
  have hLl : (xs.map Rc.r).length = xs.length := List.length_map _
  obtain ⟨b10, e10, h10⟩ := run10 hS HL
  obtain ⟨k11, e11, h11⟩ := run11 hL HL
  have early : ∀ (hk : b10 = false ∨ (b10 = true ∧ 0 < k11)), ∃ h', E X 7 [schD Cd s, .agg [.int .i64 p1, .int .i64 p2, .int .i64 p3, .int .i64 p4, Of, Cs], L] [] = some (.bool true, h') := by
    intro hk
    refine ⟨[], ?_⟩
    clear h10 h11 hL
    subst hHL
    obtain ⟨cols, k1, k2, k3, k4⟩ := s
    simp only [schD, schC] at *
    rcases hk with rfl | ⟨rfl, hk⟩
    · rw [ZH (X := X) _ b7 _ rfl rfl]; unfold b7; exact rg0 (fA3 @e9 @e10 @e11)
    · rw [ZH (X := X) _ b7 _ rfl rfl]; unfold b7; exact rg0 (fA4 @e9 @e10 @e11 @hk)
  cases b10
  · exact early (.inl rfl)
  by_cases hk : 0 < k11
  · exact early (.inr ⟨rfl, hk⟩)
  clear early
  have hsl := h10 rfl
  obtain ⟨hn, hlight⟩ := h11 hk
  obtain ⟨rs, hrs⟩ : ∃ rs, rs = xs.map Rc.vs := ⟨_, rfl⟩
  obtain ⟨zs, hzs⟩ : ∃ zs, zs = xs.map Rc.off := ⟨_, rfl⟩
  obtain ⟨ds, hds⟩ : ∃ ds, ds = xs.map Rc.d := ⟨_, rfl⟩
  have hrl : rs.length = xs.length := by rw [hrs]; simp
  have hzl : zs.length = xs.length := by rw [hzs]; simp
  obtain ⟨A, O, e12, lA, lO⟩ := run12 hL (by omega) HL
  rw [show (xs.map fun x => intD x.off) = zs.map intD by rw [hzs]; simp] at lO
  rw [← hds] at lA
  have hE : ∀ H, RowsG H ds rs := fun H => by rw [hds, hrs]; exact rec_rows hL.row H
  have hw : ∀ r ∈ rs, r.length ≤ 1000000 := fun r hr => by
    rw [hrs] at hr
    obtain ⟨x, hx, rfl⟩ := List.mem_map.1 hr
    have := hlight x hx
    unfold lightB at this
    simp only [Bool.and_eq_true, decide_eq_true_eq] at this
    have := this.1
    omega
  have hA1 := lA.one
  have hO1 := lO.one
  have hAv := lA.vw
  have hOv := lO.vw
  by_cases hok : BldOk s p1 p2 p3 p4 rs zs
  case neg =>
    have e13 := run13n (H := HL) (Cd := Cd) (A := A) (O := O) (Of := Of) (Cs := Cs) hS hCd1 (by omega) hA1 (fun G => hAv _) (hE _) (by omega) (fun G => hOv _) (by omega) hok
    refine ⟨[], ?_⟩
    have hAu : A.isU = false := by rcases lA with ⟨h, _⟩ | h <;> rw [h] <;> rfl
    have hOu : O.isU = false := by rcases lO with ⟨h, _⟩ | h <;> rw [h] <;> rfl
    clear h10 h11 hL hlight hE hw lA lO hok
    subst hHL
    obtain ⟨cols, k1, k2, k3, k4⟩ := s
    simp only [schD, schC] at *
    have v0 : ∀ g, vw g 1 .nils = some [] := fun _ => rfl
    rw [ZH (X := X) _ b7 _ rfl rfl]; unfold b7; exact rg25 (fA6 @e9 @e10 @e11 @hk @e12 @e13)
  obtain ⟨O', C', R', Z, cs, e13, hZ, hC, l1, l2, l3⟩ := run13 (H := HL) (Cd := Cd) (A := A) (O := O) (Of := Of) (Cs := Cs) hS hCd1 (by omega) hA1 (fun G => hAv _) (hE _) (by omega) (fun G => hOv _) hok
  have hZl := hZ.len
  rw [offZ_d] at l2
  have hol : (offZ zs Z).length = xs.length := by simp [offZ]; omega
  have hcok : ∀ c ∈ cs, c.Ok := fun c hc => by
    obtain ⟨k, hk, rfl⟩ := List.mem_iff_getElem.1 hc
    exact (hC.col k _ (List.getElem?_eq_getElem hk)).ok (by rw [colV_len]; omega)
  have hmay := built_may hok hZ hC (by omega)
  have hfits := fitA_fits hok.2.1
  have hsm := smayV_sort hfits.1
  have hcl := hC.len
  obtain ⟨HY, hHY⟩ : ∃ HY, HY = HL ++ [HO.box 28 (sgC p1 p2 p3 p4 O' C')] := ⟨_, rfl⟩
  obtain ⟨Gd, G, ds2, e24, hG⟩ := run24 (H := HY) (p1 := p1) (p2 := p2) (p3 := p3) (p4 := p4) l2.vw l3.vw hcok (by rw [List.length_map]; omega) (by omega) (by rw [List.length_map]; exact hmay.all) (by omega)
  rw [List.length_map, show (offZ zs Z).length = Z.length by rw [hol]; omega, built_rows hC (fun r hr => fitsV_len (hfits.2 r hr)) hZ.lt (by omega)] at hG
  have hdl : ds2.length = xs.length := by rw [hG.rows.1]; simp [rowsZ]; omega
  obtain ⟨HB, hHB⟩ : ∃ HB, HB = HY ++ G := ⟨_, rfl⟩
  have hGv0 := hG.v
  have hGr := hG.rows
  rw [← hHB] at hGr hGv0
  have hy : HB[2]? = some (.box 28 (sgC p1 p2 p3 p4 O' C')) := by rw [hHB]; exact hle (by rw [hHY, hHL]; rfl) G
  have hg1 : ∀ d ∈ ds2, d.one = true := fun d hd => by
    obtain ⟨j, hj⟩ := List.mem_iff_getElem?.1 hd
    have hjl := (List.getElem?_eq_some_iff.1 hj).1
    have hj2 : j < (rowsZ rs Z).length := by rw [← hGr.1]; exact hjl
    exact (hGr.2 j d _ hj (List.getElem?_eq_getElem hj2)).2
  have hpw := risOk_pw hok.2.2.2
  have hZat : ∀ i, i < xs.length → Z.getD i 0 < xs.length := fun i hi => by
    have e1 : Z.getD i 0 = Z[i]'(by omega) := by rw [List.getD_eq_getElem?_getD, List.getElem?_eq_getElem (by omega)]; rfl
    rw [e1]
    have := hZ.lt _ (List.getElem_mem (by omega : i < Z.length))
    omega
  obtain ⟨ex, hc⟩ := loop7_0 (Hb := HB) (O := O) (A := Gd) (Oy := O') (Cy := C') (d3 := .ref 0 0) (d4 := .ref 1 0) (a := 2) (n := xs.length) (p1 := p1) (p2 := p2) (p3 := p3) (p4 := p4) (zs := zs) (wz := offZ zs Z) (Z := Z) (gds := ds2) (fun _ => hOv _) hzl hy (fun _ => l2.vw _) hol hGv0 hdl hg1 hZat (fun i k hi hk => by rw [off_at (by omega)]; exact off_inj hpw (by omega) (by have := hZat i hi; omega)) (by omega) xs.length 0 (by omega) (by omega)
  rw [show ((0 : Nat) : Int) = 0 from rfl, show bkL xs.length Z ds2 0 = List.replicate xs.length .nils from rfl] at hc
  have hE2 := bk_rows (Hb := HB) (n := xs.length) hZ.perm hGr hrl
  have hbl := bkL_len xs.length Z ds2 xs.length
  obtain ⟨HK, hHK⟩ : ∃ HK, HK = bkH HB (bkL xs.length Z ds2 xs.length) := ⟨_, rfl⟩
  rw [← hHK] at hE2 hc
  have hKr : ∀ g, (HK ++ g)[HB.length]? = some (.row 45 1 0 (bkL xs.length Z ds2 xs.length)) := fun g => hle (by rw [hHK]; exact bkH_row _ _) g
  have hKv : ∀ g, vw (HK ++ g) 1 (.row HB.length 0 0 xs.length false) = some (bkL xs.length Z ds2 xs.length) := fun g => by
    have hb := hKr g
    generalize bkL xs.length Z ds2 xs.length = cur at *
    rw [← hbl]; simp [vw, hb]
  obtain ⟨O2, C2, R2, W, cs2, e98, hW2, hC2, m1', m2', m3'⟩ := run13 (H := HK) (Cd := Cd) (A := .row HB.length 0 0 xs.length false) (O := O) (Of := Of) (Cs := Cs) hS hCd1 (by omega) rfl hKv hE2 (by omega) (fun G => hOv _) hok
  have hZW := hZ.uniq hW2
  subst hZW
  rw [offZ_d] at m2'
  have e99 : ∀ g, E X 15 [.agg [.int .i64 p1, .int .i64 p2, .int .i64 p3, .int .i64 p4, O', C'], .agg [.int .i64 p1, .int .i64 p2, .int .i64 p3, .int .i64 p4, O2, C2]] g = some (.bool true, g) := fun g =>
    run15 (H := g) (twin_of hC hC2 (by omega)) (by omega) l3.vw m3'.vw (fun _ => l2.vw _) (fun _ => m2'.vw _) (by omega)
  have hKb : ∀ (i : Nat) (x : HO) (g : Zb), HB[i]? = some x → (HK ++ g)[i]? = some x := fun i x g hx => by
    rw [hHK]; unfold bkH; rw [List.append_assoc]; exact hle hx _
  have b0 : HB[0]? = some (.box 24 [Cd, .int .i64 s.key, .int .i64 s.cmp, .int .i64 s.del, .int .i64 s.sort]) := by rw [hHB]; exact hle (by rw [hHY, hHL]; rfl) G
  have b1 : HB[1]? = some (.box 28 [.int .i64 p1, .int .i64 p2, .int .i64 p3, .int .i64 p4, Of, Cs]) := by rw [hHB]; exact hle (by rw [hHY, hHL]; rfl) G
  have k0 := fun g => hKb 0 _ g b0
  have k1' := fun g => hKb 1 _ g b1
  have k2' := fun g => hKb 2 _ g hy
  have k00 := k0 []
  have k11 := k1' []
  have k22 := k2' []
  rw [List.append_nil] at k00 k11 k22
  have hsh : (Gd = .list 1 ds2 false ∧ G = []) ∨ ∃ o, Gd = .row o 0 0 ds2.length false := by
    rcases hG.sh with ⟨h1, h2, _⟩ | ⟨o, h1, _⟩
    · exact .inl ⟨h1, h2⟩
    · exact .inr ⟨o, h1⟩
  have hGv : vw (HY ++ G) 1 Gd = some ds2 := by have := hG.v []; rwa [List.append_nil] at this
  have o1 := l1.one
  have o2 := l2.one
  have o3 := l3.one
  have o4 := m1'.one
  have o5 := m2'.one
  have o6 := m3'.one
  have m0 : (0 : Int) ≤ (xs.length : Int) := by omega
  have m1 : (xs.length : Int) * 24 ≤ 140737488355328 := by omega
  have m2 : (xs.length : Int) ≤ 140737488355328 := by omega
  have hW : Wc 1 .nils := by simp [Wc, DV.cells, DV.one]
  clear h10 h11 hL hlight hE hw lA lO hok hmay hcok hC hZ hG hfits hsm l1 l2 l3 hy hE2 hKr hKv hKb b0 b1 hGr hGv0 hg1 hpw hZat hW2 hC2 m1' m2' m3' hHK hbl
  generalize (offZ zs Z).map intD = od at *
  generalize Z.map iD = Zd at *
  generalize xs.map Rc.r = xd at *
  refine ⟨[], ?_⟩
  have hfin : ∀ h' : Zb, fin [] h' [.bool true] = (.bool true, []) := fun h' => by simp [fin, fz1, fz0]
  obtain ⟨cols, k1, k2, k3, k4⟩ := s
  simp only [schD, schC, sgC] at *
  unfold bkH at hc
  rcases hsh with ⟨rfl, rfl⟩ | ⟨o, rfl⟩
  · subst hHB
    subst hHY
    subst hHL
    simp only [List.cons_append, List.nil_append, List.append_assoc, List.length_cons, List.length_nil, List.length_append, Nat.zero_add, Nat.reduceAdd, List.append_nil] at hc e24 e98 hGv
    rw [ZH (X := X) _ b7 _ rfl rfl]; unfold b7
    refine rn0 (fA18 @e9 @e10 @e11 @hk @e12 @e13 @e24 @hLv @hLl @hGv @hdl @o1 @o2 @o3 @m0 @m1 @m2 @hW) ?_
    refine keG ?_
    rw [hc]
    refine rn0 (fA11 @e98 @e99 @k0 @k1' @k2' @k00 @k11 @k22 @o4 @o5 @o6) ?_
    simp only [Zv, Ya, lk, Za, List.map_cons, List.map_nil, reduceIte, Option.map_some, Nat.reduceEqDiff, hfin]
  · rw [hdl] at hc e24 hGv
    subst hHB
    subst hHY
    subst hHL
    simp only [List.cons_append, List.nil_append, List.append_assoc, List.length_cons, List.length_nil, List.length_append, Nat.zero_add, Nat.reduceAdd, List.append_nil] at hc e24 e98 hGv
    rw [ZH (X := X) _ b7 _ rfl rfl]; unfold b7
    refine rn0 (fA18 @e9 @e10 @e11 @hk @e12 @e13 @e24 @hLv @hLl @hGv @hdl @o1 @o2 @o3 @m0 @m1 @m2 @hW) ?_
    refine keG ?_
    rw [hc]
    refine rn0 (fA11 @e98 @e99 @k0 @k1' @k2' @k00 @k11 @k22 @o4 @o5 @o6) ?_
    simp only [Zv, Ya, lk, Za, List.map_cons, List.map_nil, reduceIte, Option.map_some, Nat.reduceEqDiff, hfin]
end Go.Proofs.YtmbgfbomgbdjeaaGreatDoor
