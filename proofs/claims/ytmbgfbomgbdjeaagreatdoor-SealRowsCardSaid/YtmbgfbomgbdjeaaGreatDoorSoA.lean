/- Ideal runs: in which order rows are sealed (seal.Order). Ideal runs: rows are sealed (seal.Build). Ideal runs: the loops of seal.Build; what it hands out. Ideal runs: seal.Build, whole. What is built may be; the chapter's example of the seal (winnowerlaw12.awake). Ideal runs: records, their rows and offsets (winnowerlaw11.Few, winnowerlaw12.Parted). Ideal runs: SealBack. Ideal runs: the document's answers on rows that fit (winnowerref07.Fits, winnowerref12.Fit). Ideal runs: SealSorts. Ideal runs: seal.Row of a segment that may be. Ideal runs: SealRows. Ideal runs: winnowerref12.Same of segments that hold the same. Ideal runs: the loops of SealOnce: rows are put back where they came from. SealOnce: what is put back is what was there. Ideal runs: SealOnce. -/
import Derived.Test.YtmbgfbomgbdjeaaGreatDoorStep
import Derived.Test.YtmbgfbomgbdjeaaGreatDoorStbA
import Derived.Test.YtmbgfbomgbdjeaaGreatDoorSealA
import Derived.Test.YtmbgfbomgbdjeaaGreatDoorColL
import Derived.Test.YtmbgfbomgbdjeaaGreatDoorPlainB
import Derived.Test.YtmbgfbomgbdjeaaGreatDoorNod
import Derived.Test.YtmbgfbomgbdjeaaGreatDoorColT
import Derived.Test.YtmbgfbomgbdjeaaGreatDoorQryR
namespace Go.Proofs.YtmbgfbomgbdjeaaGreatDoor
attribute [local go_sem] ZJ ZE ZD ZF Zt Zh Zr Zk Zm Ze Zf Zl Zu Zv ZG Zs Zi ZC Zx Zw ZV ZA Yo put lk Od.v Za Zg Zo rdc Yd Ye Yc unx eqk DV.isU DV.cells hget ZP Yb ZO Zq splice ZQ mat ZW eqs one_bool one_int one_str one_nilp one_ref one_elem one_nils one_list one_row one_nilm one_map one_nilf one_func one_nili one_ifc one_agg one_tup Yx Yy
attribute [local go_sem ↓] Zj
set_option linter.unusedVariables false
set_option linter.unusedSimpArgs false
set_option maxRecDepth 10000
theorem cmpI_pos (a b : Int) : 0 < cmpI a b ↔ b < a := by
  unfold cmpI
  split
  · simp; omega
  · split <;> simp_all
theorem cmpL_pos : ∀ (x y : List UInt8), 0 < cmpL x y ↔ cmpL y x < 0
  | [], [] => by simp [cmpL, Op.bytesLess]
  | [], _ :: _ => by simp [cmpL, Op.bytesLess]
  | _ :: _, [] => by simp [cmpL, Op.bytesLess]
  | a :: x, b :: y => by
    by_cases h1 : a < b
    · rw [cmpL_lt _ _ h1, cmpL_gt _ _ h1]; simp
    by_cases h2 : b < a
    · rw [cmpL_gt _ _ h2, cmpL_lt _ _ h2]; simp
    have : a = b := by
      rw [UInt8.lt_iff_toNat_lt] at *
      exact UInt8.toNat_inj.1 (by omega)
    subst this
    rw [cmpL_eq, cmpL_eq]
    exact cmpL_pos x y
theorem ord_anti (a b : V) : ord b a < 0 ↔ 0 < ord a b := by
  obtain ⟨k, n, s, t⟩ := a
  obtain ⟨k', n', s', t'⟩ := b
  unfold ord
  simp only
  by_cases h1 : k = k'
  · subst h1
    simp only [ne_eq, not_true_eq_false, ↓reduceIte]
    by_cases h2 : k = 1
    · simp only [h2, ↓reduceIte]; rw [cmpI_neg, cmpI_pos]
    simp only [h2, ↓reduceIte]
    by_cases h3 : k = 2
    · simp only [h3, ↓reduceIte]; rw [cmpS_L, cmpS_L]
      exact (cmpL_pos _ _).symm
    simp only [h3, ↓reduceIte]
    by_cases h4 : k = 3
    · simp only [h4, ↓reduceIte]; rw [cmpI_neg, cmpI_pos]
    simp [h4]
  · rw [if_pos (fun h => h1 h.symm), if_pos h1, cmpI_neg, cmpI_pos]
theorem ord_le_trans (a b c : V) (h1 : ord a b ≤ 0) (h2 : ord b c ≤ 0) : ord a c ≤ 0 := by
  by_cases h : ord a c ≤ 0
  · exact h
  have h3 := (ord_anti a c).2 (by omega)
  have e1 := ord_anti a b
  have e2 := ord_anti b c
  rcases ord_or c b a h3 with h4 | h4 <;> omega
/-- How rows stand to one another, by their numbers. -/
def rowC (s : Sch) (rs : List (List V)) (i k : Nat) : Int := ordV s (rs.getD i []) (rs.getD k [])
theorem rowC_anti (s : Sch) (rs : List (List V)) (x y : Nat) : rowC s rs y x < 0 ↔ 0 < rowC s rs x y := by
  unfold rowC ordV
  split
  · simp
  · exact ord_anti _ _
theorem rowC_trans (s : Sch) (rs : List (List V)) (x y z : Nat) (h1 : rowC s rs x y ≤ 0) (h2 : rowC s rs y z ≤ 0) : rowC s rs x z ≤ 0 := by
  unfold rowC ordV at *
  split
  · simp
  · rename_i c
    rw [if_neg c] at h1 h2
    exact ord_le_trans _ _ _ h1 h2
theorem fitA_fits {s : Sch} {rs : List (List V)} (h : fitA s rs = true) : smayV s = true ∧ ∀ r ∈ rs, fitsV s r = true := by
  unfold fitA at h
  simp only [Bool.and_eq_true, Bool.not_eq_true', List.any_eq_false] at h
  exact ⟨h.1, fun r hr => by have := h.2 r hr; simpa using this⟩
theorem fitsV_len {s : Sch} {r : List V} (h : fitsV s r = true) : r.length = s.cols.length := by
  unfold fitsV at h
  simp only [Bool.and_eq_true, decide_eq_true_eq] at h
  exact h.2.1
theorem smayV_sort {s : Sch} (h : smayV s = true) : s.sort < s.cols.length ∧ s.cols.length ≤ 8 ∧ 1 ≤ s.cols.length ∧ -1 ≤ s.sort := by
  unfold smayV at h
  simp only [Bool.and_eq_true, decide_eq_true_eq] at h
  exact ⟨h.2.2.2.2.2, h.2.2.1, h.2.1, h.2.2.2.2.1⟩
theorem fitA_sort {s : Sch} {rs : List (List V)} (h : fitA s rs = true) : ∀ r ∈ rs, s.sort < r.length := fun r hr => by
  obtain ⟨h1, h2⟩ := fitA_fits h
  rw [fitsV_len (h2 r hr)]
  exact (smayV_sort h1).1
/-- What is handed out: new numbers. -/
def FreshI (d : DV) (l : List Nat) : Prop := (d = .nils ∧ l = []) ∨ d = .fresh 3 1 (l.map iD)
/-- The order of rows: all of them, each once. -/
structure OrdZ (s : Sch) (rs : List (List V)) (Z : List Nat) : Prop where
  perm : Z.Perm (List.range rs.length)
  lx : Z.Pairwise (Lx (rowC s rs))
theorem loop17 {Hb : Zb} {b n : Nat} (hn : n ≤ 1000000) :
    ∀ (k i : Nat) (h : Zb) (d : DV), n - i ≤ k → i ≤ n → Gro 3 1 Hb h d ((List.range i).map iD) → ∃ ex h' d', C X (.loop lp17_0) [(5, .ref b 0), (6, d), (15, .int .i64 n), (16, .int .i64 i)] h = some (.exit 0, (5, .ref b 0) :: (6, d') :: ex, h') ∧ Gro 3 1 Hb h' d' ((List.range n).map iD) := by
  intro k
  induction k with
  | zero =>
    intro i h d hk hi hg
    obtain rfl : i = n := by omega
    refine ⟨[(15, .int .i64 i), (16, .int .i64 i), (17, .bool false)], h, d, ?_, hg⟩
    rw [Zc]
    unfold lp17_0
    refine rn trivial ?_
    rw [Zz]
    simp [Za, lk]
  | succ k ih =>
    intro i h d hk hi hg
    by_cases c : i < n
    case neg => exact ih i h d (by omega) hi hg
    have c' : (i : Int) < (n : Int) := by omega
    obtain ⟨I, hI'⟩ : ∃ I, I = i + 1 := ⟨_, rfl⟩
    have z1 : IntKind.i64.wrap ((i : Int) + 1) = (I : Int) := (by rw [wrap64 _ (by omega) (by omega)]; omega)
    obtain ⟨d2, h2, ha, hg2⟩ := hg.app 8 [.int .i64 (i : Nat)] (by simp; omega)
    have hw := hg.vw
    rw [show (List.range i).map iD ++ [DV.int .i64 (i : Nat)] = (List.range I).map iD by rw [hI', List.range_succ, List.map_append]; rfl] at hg2
    have y1 : ∀ h, eltL [.int .i64 (i : Nat)] h = some ([.int .i64 (i : Nat)], h) := fun _ => rfl
    have y2 : Wc 1 (.int .i64 (i : Nat)) := by simp [Wc, DV.cells, DV.one]
    have y3 : Nr (.int .i64 (i : Nat)) := .int _ _
    have y4 : ∀ h, srcOf h 1 (.list 1 [.int .i64 (i : Nat)] true) = some [.int .i64 (i : Nat)] := fun _ => rfl
    have hs : C X lp17_0 [(5, .ref b 0), (6, d), (15, .int .i64 n), (16, .int .i64 i)] h = some (.norm, [(5, .ref b 0), (6, d2), (15, .int .i64 n), (16, .int .i64 I)], h2) := by
      clear hg hg2 ih
      unfold lp17_0
      refine rn (fA9 @c @c' @z1 @y1 @y2 @y3 @y4 @hw @ha) ?_
      simp [Za, lk]
    rw [Zc, hs, ZI]
    exact ih I h2 d2 (by omega) (by omega) hg2
theorem run17 {H : Zb} {Cd A : DV} {s : Sch} {ds : List DV} {rs : List (List V)} (hC : ∀ g, vw g 3 Cd = some (s.cols.map Cl.d)) (hCd1 : Cd.one = true) (hl : s.cols.length ≤ 1000) (hA1 : A.one = true) (hA : ∀ G, vw (H ++ G) 1 A = some ds) (hE : RowsG H ds rs) (hb : rs.length ≤ 1000) :
    (fitA s rs = false ∧ E X 17 [Yq Cd s, A] H = some (.nils, H)) ∨ (fitA s rs = true ∧ ∃ d Z, E X 17 [Yq Cd s, A] H = some (d, H) ∧ FreshI d Z ∧ OrdZ s rs Z) := by
  obtain ⟨HB, hHB⟩ : ∃ HB, HB = H ++ [HO.box 24 [Cd, .int .i64 s.key, .int .i64 s.cmp, .int .i64 s.del, .int .i64 s.sort], .box 66 [Cd, .int .i64 s.key, .int .i64 s.cmp, .int .i64 s.del, .int .i64 s.sort, A]] := ⟨_, rfl⟩
  have hAB : ∀ G, vw (HB ++ G) 1 A = some ds := fun G => by rw [hHB, List.append_assoc]; exact hA _
  have hEB : RowsG HB ds rs := by rw [hHB]; exact hE.ext _
  have e34 := run34 (H := HB) (A := A) hC hl hAB hEB hb
  have g5 : HB[H.length + 1]? = some (.box 66 [Cd, .int .i64 s.key, .int .i64 s.cmp, .int .i64 s.del, .int .i64 s.sort, A]) := by rw [hHB]; simp
  have hAu : A.isU = false := by cases A <;> first | rfl | simp [DV.one] at hA1
  have hAc := cells1 hA1
  unfold DV.cells at hAc
  unfold DV.isU at hAu
  cases hf : fitA s rs
  · left
    refine ⟨rfl, ?_⟩
    rw [hf] at e34
    clear hAB hEB hA hE
    subst hHB
    obtain ⟨cols, k1, k2, k3, k4⟩ := s
    simp only [Yq, Yl] at *
    rw [ZB (X := X) _ b17 _ rfl rfl]; unfold b17
    refine rn0 (fA5 @hCd1 @hA1 @hAu @hAc @e34) ?_
    exact re @hA1
  · right
    refine ⟨rfl, ?_⟩
    rw [hf] at e34
    have hAv : vw HB 1 A = some ds := by have := hAB []; rwa [List.append_nil] at this
    have hdl : ds.length = rs.length := hE.1
    obtain ⟨ex, h3, d3, hc, hg⟩ := loop17 (Hb := HB) (b := H.length + 1) (n := rs.length) (by omega) rs.length 0 HB .nils (by omega) (by omega) Gro.zero
    rw [show ((0 : Nat) : Int) = 0 from rfl] at hc
    have hb3 := pre_get hg.1 g5
    have key : ∃ Z h4 d, E X 40 [d3, .func 41 [.agg [Cd, .int .i64 s.key, .int .i64 s.cmp, .int .i64 s.del, .int .i64 s.sort, A]] []] h3 = some (.tup [], h4) ∧ fin H h4 [d3] = (d, H) ∧ FreshI d Z ∧ OrdZ s rs Z := by
      have hpre : HB.take H.length = H := by rw [hHB]; exact List.take_left
      have hsort := fitA_sort hf
      rcases hg.2 with ⟨rfl, hx⟩ | ⟨g, o, rfl, ho, h3o⟩
      · have h0 : rs.length = 0 := by simpa using congrArg List.length hx
        have hnil := List.eq_nil_of_length_eq_zero h0
        refine ⟨[], h3, .nils, run40n _ _, ?_, .inl ⟨rfl, rfl⟩, ⟨by rw [h0]; exact List.Perm.refl _, .nil⟩⟩
        rcases (hg.base hpre).fin (by rw [hx]; simp) with ⟨_, h⟩ | ⟨h, _⟩
        · exact h
        · exact absurd rfl h
      · have hxl : ((List.range rs.length).map iD).length = rs.length := by simp
        rw [hxl]
        have hr := (List.getElem?_eq_some_iff.1 h3o).1
        have hself : hI h3 o g (List.range rs.length) = h3 := by
          unfold hI
          apply List.ext_getElem?
          intro i
          by_cases e : o = i
          · subst e; rw [List.getElem?_set_self hr, h3o]
          · rw [List.getElem?_set_ne e]
        have hpreI : ∀ l, (hI h3 o g l).take HB.length = HB := fun l => by unfold hI; rw [List.take_set_of_le ho]; exact hg.1
        have hCmp : CmpI h3 o g rs.length 41 (.agg [Cd, .int .i64 s.key, .int .i64 s.cmp, .int .i64 s.del, .int .i64 s.sort, A]) (rowC s rs) := by
          refine ⟨fun l i k hi hk => ?_, rowC_anti s rs, rowC_trans s rs⟩
          obtain ⟨G, hG⟩ := take_split (hpreI l)
          have e41 := run41 (H := hI h3 o g l) (Cd := Cd) (s := s) (A := A) (ds := ds) (rs := rs) (i := i) (k := k) (fun G2 => by rw [hG, List.append_assoc]; exact hAB _) (by rw [hG]; exact hEB.ext _) (List.getElem?_eq_getElem hi) (List.getElem?_eq_getElem hk) (hsort _ (List.getElem_mem _)) (hsort _ (List.getElem_mem _))
          rw [e41]
          simp [rowC, List.getD_eq_getElem?_getD, hi, hk]
        obtain ⟨Z, e, z1, z2⟩ := run40 hCmp hr (by omega) (l := List.range rs.length) (by simp) (fun y hy => List.mem_range.1 hy) List.pairwise_lt_range
        rw [hself] at e
        have hZl : Z.length = rs.length := by rw [z1.length_eq]; simp
        have hgZ : Gro 3 1 HB (hI h3 o g Z) (.row o g 0 rs.length false) (Z.map iD) := ⟨hpreI Z, .inr ⟨g, o, by rw [List.length_map, hZl], ho, by unfold hI; rw [List.getElem?_set_self hr]⟩⟩
        have hnr : ∀ x ∈ Z.map iD, Nr x := fun x hx => by
          obtain ⟨y, _, rfl⟩ := List.mem_map.1 hx
          exact .int _ _
        rcases (hgZ.base hpre).fin hnr with ⟨h, _⟩ | ⟨_, hfin⟩
        · cases h
        · exact ⟨Z, _, _, e, hfin, .inr rfl, ⟨z1, z2⟩⟩
    obtain ⟨Z, h4, d, e40, hfin, hZ1, hZ2⟩ := key
    refine ⟨d, Z, ?_, hZ1, hZ2⟩
    clear hAB hEB hA hE hg
    subst hHB
    obtain ⟨cols, k1, k2, k3, k4⟩ := s
    simp only [Yq, Yl] at *
    rw [ZB (X := X) _ b17 _ rfl rfl]; unfold b17
    refine rn0 (fA7 @hCd1 @hA1 @hAu @hAc @e34 @hAv @hdl) ?_
    refine keG ?_
    rw [hc]
    refine rn0 (fA2 @hb3 @e40) ?_
    simp only [Zn, ZY, lk, Za, List.map_cons, List.map_nil, reduceIte, Option.map_some, Nat.reduceEqDiff, hfin]
set_option linter.unusedSectionVars false
/-- A column that was built of values. -/
structure BuiltC (ls : List V) (c : RC) : Prop where
  n : c.n = (ls.length : Int)
  bs : c.bs = pack (ls.map (place c.ys)) (wC c.ys.length)
  up : Up c.ys
  mem : ∀ x, x ∈ c.ys ↔ x ∈ ls
  yl : c.ys.length ≤ ls.length
  may : ∀ x ∈ ls, mayV x = true
  dict : ValL c.D c.ys
  B : c.B = .list 1 (c.bs.map bD) false
theorem ba_nil {s : ByteArray} (h : (s == ⟨#[]⟩) = true) : s = ⟨#[]⟩ := by
  have h' : (s.data == #[]) = true := h
  cases s
  simp at h' ⊢
  exact h'
theorem upRisS : ∀ (l : List V) (p : V), Up (p :: l) → (∀ x ∈ l, mayV x = true) → risL (some p) l = true
  | [], p, _, _ => rfl
  | a :: l, p, h, hm => by
    have h1 := List.pairwise_cons.1 h
    simp only [risL, Bool.and_eq_true, decide_eq_true_eq]
    exact ⟨hm a (by simp), h1.1 a (by simp), upRisS l a h1.2 (fun x hx => hm x (by simp [hx]))⟩
theorem upRis {l : List V} (h : Up l) (hm : ∀ x ∈ l, mayV x = true) : risL none l = true := by
  cases l with
  | nil => rfl
  | cons a l =>
    simp only [risL, Bool.and_eq_true]
    exact ⟨hm a (by simp), upRisS l a h (fun x hx => hm x (by simp [hx]))⟩
theorem may_size {v : V} (h : mayV v = true) : Sm v := by
  unfold mayV at h
  unfold Sm
  by_cases h1 : v.k = 1
  · simp [h1] at h
    rw [ba_nil h.1]; decide
  by_cases h2 : v.k = 2
  · simp [h1, h2] at h
    omega
  by_cases h3 : v.k = 3
  · simp [h1, h2, h3] at h
    rw [ba_nil h.2]; decide
  by_cases h4 : v.k = 0
  · simp [h1, h2, h3, h4] at h
    rw [ba_nil h.1.2]; decide
  · simp [h1, h2, h3, h4] at h
theorem wC_le {n : Nat} (h : n ≤ 200) : wC n ≤ 8 := by
  have h1 := wN_mono (n - 1) 255 (by omega)
  have h2 : wN 255 = 8 := by decide
  unfold wC; omega
section
variable {ls : List V} {c : RC} (h : BuiltC ls c) (hl : ls.length ≤ 200)
include h hl
theorem BuiltC.il_w : ∀ p ∈ ls.map (place c.ys), wN p ≤ wC c.ys.length ∧ p < c.ys.length := fun p hp => by
  obtain ⟨x, hx, rfl⟩ := List.mem_map.1 hp
  have hq := (List.getElem?_eq_some_iff.1 (up_at_place h.up ((h.mem x).2 hx)).1).1
  exact ⟨wN_mono _ _ (by omega), hq⟩
theorem BuiltC.ids : idsN c.bs (wC c.ys.length) c.n.toNat = ls.map (place c.ys) := by
  rw [h.bs, h.n, Int.toNat_natCast]
  unfold idsN
  apply List.ext_getElem
  · simp
  · intro i h1 h2
    simp only [List.getElem_map, List.getElem_range]
    have hi : i < (ls.map (place c.ys)).length := h2
    have := numB_pack (ls.map (place c.ys)) (wC c.ys.length) i hi (h.il_w hl _ (List.getElem_mem hi)).1
    rw [this]
    simp
theorem BuiltC.pad : padOk c.bs (wC c.ys.length) c.n.toNat := by
  rw [h.bs, h.n, Int.toNat_natCast]
  refine ⟨by rw [pack_len, List.length_map], fun h0 => ?_⟩
  have := pack_last (ls.map (place c.ys)) (wC c.ys.length) (by rw [List.length_map]; exact h0)
  rw [List.length_map] at this
  rw [pack_len, List.length_map]
  exact Nat.div_eq_of_lt this
theorem BuiltC.ok : c.Ok := by
  have hw := wC_le (n := c.ys.length) (by have := h.yl; omega)
  refine ⟨h.dict, by have := h.yl; omega, fun x hx => may_size (h.may x ((h.mem x).1 hx)), .inr h.B, by rw [h.bs]; exact pack_BB _ _, ?_⟩
  rw [h.bs, pack_len, List.length_map]
  have : ls.length * wC c.ys.length ≤ 200 * 8 := Nat.mul_le_mul hl hw
  omega
theorem BuiltC.okC : okC c.n c.ys c.bs := by
  have hn := h.n
  refine ⟨by omega, by omega, upRis h.up (fun x hx => h.may x ((h.mem x).1 hx)), h.pad hl, fun p hp => ?_, fun k hk => ?_⟩
  · rw [h.ids hl] at hp
    exact (h.il_w hl p hp).2
  · rw [h.ids hl]
    have hx := List.getElem_mem hk
    refine List.mem_map.2 ⟨c.ys[k], (h.mem _).1 hx, ?_⟩
    exact up_place h.up (List.getElem?_eq_getElem hk)
theorem BuiltC.val {i : Nat} {v : V} (hv : ls[i]? = some v) : c.sc.val i = v := by
  have e : c.sc.il = ls.map (place c.ys) := h.ids hl
  unfold SC.val
  rw [e]
  have e2 : c.sc.ys = c.ys := rfl
  rw [e2]
  have h1 : (ls.map (place c.ys)).getD i 0 = place c.ys v := by simp [List.getD_eq_getElem?_getD, hv]
  rw [h1, List.getD_eq_getElem?_getD, (up_at_place h.up ((h.mem v).2 (List.mem_of_getElem? hv))).1]
  rfl
end
/-- Two columns of the same values. -/
theorem BuiltC.same {ls : List V} {c d : RC} (h : BuiltC ls c) (h' : BuiltC ls d) : c.n = d.n ∧ c.ys = d.ys ∧ c.bs = d.bs := by
  have e : c.ys = d.ys := up_ext _ _ h.up h'.up (fun v => by rw [h.mem, h'.mem])
  refine ⟨by rw [h.n, h'.n], e, by rw [h.bs, h'.bs, e]⟩
/-- What may be sealed. -/
def BldOk (s : Sch) (p1 p2 p3 p4 : Int) (rs : List (List V)) (zs : List Int) : Prop := headB p1 p2 p3 p4 = true ∧ fitA s rs = true ∧ zs.length = rs.length ∧ RisOk p3 p4 zs
/-- Columns as they are handed out. -/
def ColsA (d : DV) (cs : List RC) : Prop := (d = .nils ∧ cs = []) ∨ d = .list 3 (cs.map RC.d) false
theorem ColsA.vw {d : DV} {cs : List RC} (h : ColsA d cs) (g : Zb) : vw g 3 d = some (cs.map RC.d) := by
  rcases h with ⟨rfl, rfl⟩ | rfl <;> rfl
/-- A column of rows, in an order. -/
def colV (rs : List (List V)) (Z : List Nat) (k : Nat) : List V := Z.map fun i => (rs.getD i []).getD k v0
/-- The segment of rows. -/
structure BldC (s : Sch) (rs : List (List V)) (Z : List Nat) (cs : List RC) : Prop where
  len : cs.length = s.cols.length
  col : ∀ k c, cs[k]? = some c → BuiltC (colV rs Z k) c
/-- A slice whose elements lie in the heap, or nowhere. -/
def RowIs (N T sz : Nat) (h : Zb) (d : DV) (xs : List DV) : Prop := (d = .nils ∧ xs = []) ∨ ∃ g o, d = .row o g 0 xs.length false ∧ N ≤ o ∧ (h[o]? = some (.row T sz g xs) ∨ h[o]? = some (.frz T sz g xs))
def LstIs (sz : Nat) (d : DV) (xs : List DV) : Prop := (d = .nils ∧ xs = []) ∨ d = .list sz xs false
theorem RowIs.fz {N T sz : Nat} {h : Zb} {d : DV} {xs : List DV} (hr : RowIs N T sz h d xs) (hn : ∀ x ∈ xs, Nr x) : ∃ d' h', fz0 N h false d = some (d', h') ∧ LstIs sz d' xs ∧ ∀ T' sz' d2 ys, RowIs N T' sz' h d2 ys → RowIs N T' sz' h' d2 ys := by
  rcases hr with ⟨rfl, rfl⟩ | ⟨g, o, rfl, ho, hx⟩
  · exact ⟨.nils, h, rfl, .inl ⟨rfl, rfl⟩, fun _ _ _ _ h => h⟩
  · rcases hx with hx | hx
    · refine ⟨.list sz xs false, h.set o (.frz T sz g xs), ?_, .inr rfl, fun T' sz' d2 ys h2 => ?_⟩
      · simp only [fz0]
        rw [if_neg (by omega), hx]
        simp only
        rw [if_pos ⟨rfl, by simp, hn⟩]
        simp
      · rcases h2 with h2 | ⟨g2, o2, rfl, ho2, hx2⟩
        · exact .inl h2
        · refine .inr ⟨g2, o2, rfl, ho2, ?_⟩
          have hlt := (List.getElem?_eq_some_iff.1 hx).1
          by_cases e : o = o2
          · subst e
            rw [List.getElem?_set_self hlt]
            rw [hx] at hx2
            rcases hx2 with hx2 | hx2 <;> injection hx2 with hx2
            · injection hx2 with e1 e2 e3 e4
              subst e1; subst e2; subst e3; subst e4
              exact .inr rfl
            · cases hx2
          · rw [List.getElem?_set_ne e]; exact hx2
    · refine ⟨.list sz xs false, h, ?_, .inr rfl, fun _ _ _ _ h => h⟩
      simp only [fz0]
      rw [if_neg (by omega), hx]
      simp only
      rw [if_pos ⟨rfl, by simp, hn⟩]
      simp
theorem Gro.is {T sz : Nat} {H h : Zb} {d : DV} {xs : List DV} (hg : Gro T sz H h d xs) : RowIs H.length T sz h d xs := by
  rcases hg.2 with h1 | ⟨g, o, h1, h2, h3⟩
  · exact .inl h1
  · exact .inr ⟨g, o, h1, h2, .inl h3⟩
theorem RowIs.low {N M T sz : Nat} {h : Zb} {d : DV} {xs : List DV} (hr : RowIs N T sz h d xs) (hm : M ≤ N) : RowIs M T sz h d xs := by
  rcases hr with h1 | ⟨g, o, h1, h2, h3⟩
  · exact .inl h1
  · exact .inr ⟨g, o, h1, by omega, h3⟩
/-- What seal.Build hands out. -/
theorem fin_seg {H h : Zb} {p1 p2 p3 p4 : Int} {Oq Cd R : DV} {os cs rs : List DV} (ht : h.take H.length = H) (hO : RowIs H.length 3 1 h Oq os) (hC : RowIs H.length 70 3 h Cd cs) (hR : RowIs H.length 3 1 h R rs) (nO : ∀ x ∈ os, Nr x) (nC : ∀ x ∈ cs, Nr x) (nR : ∀ x ∈ rs, Nr x) :
    ∃ O' C' R', fin H h [.agg [.int .i64 p1, .int .i64 p2, .int .i64 p3, .int .i64 p4, Oq, Cd], R, .int .i64 0] = (.tup [.agg [.int .i64 p1, .int .i64 p2, .int .i64 p3, .int .i64 p4, O', C'], R', .int .i64 0], H) ∧ LstIs 1 O' os ∧ LstIs 3 C' cs ∧ LstIs 1 R' rs := by
  obtain ⟨O', h1, f1, l1, k1⟩ := hO.fz nO
  obtain ⟨C', h2, f2, l2, k2⟩ := (k1 _ _ _ _ hC).fz nC
  obtain ⟨R', h3, f3, l3, k3⟩ := (k2 _ _ _ _ (k1 _ _ _ _ hR)).fz nR
  refine ⟨O', C', R', ?_, l1, l2, l3⟩
  have g3 : fz1 H.length h2 false R = some (R', h3) := by
    rcases hR with ⟨rfl, _⟩ | ⟨g, o, rfl, _, _⟩ <;> exact f3
  simp only [fin]
  rw [if_pos ht]
  have i0 : ∀ (p : Int) (g : Zb), fz0 H.length g false (.int .i64 p) = some (.int .i64 p, g) := fun _ _ => rfl
  have i1 : ∀ (p : Int) (g : Zb), fz1 H.length g false (.int .i64 p) = some (.int .i64 p, g) := fun _ _ => rfl
  have g1 : ∀ cs, fz1 H.length h false (.agg cs) = match fzL H.length cs h with | some (cs', h') => some (.agg cs', h') | none => none := fun _ => rfl
  simp only [fzT, g1, fzL, i0, i1, f1, f2, g3]
section
variable {HS : Zb} {o T : Nat}
/-- The box of a slice that grows is written. -/
theorem Gro.boxed {T1 sz : Nat} {c c' : List DV} {h : Zb} {d : DV} {xs : List DV} (hg : Gro T1 sz (HS.set o (.box T c)) h d xs) (ho : o < HS.length) : Gro T1 sz (HS.set o (.box T c')) (h.set o (.box T c')) d xs := by
  obtain ⟨ht, hr⟩ := hg
  rw [List.length_set] at ht
  refine ⟨?_, ?_⟩
  · rw [List.length_set, List.take_set, ht, List.set_set]
  · rcases hr with h1 | ⟨g, q, h1, h2, h3⟩
    · exact .inl h1
    · rw [List.length_set] at h2
      exact .inr ⟨g, q, h1, by rw [List.length_set]; exact h2, by rw [List.getElem?_set_ne (by omega)]; exact h3⟩
theorem Gro.inbox {T1 sz : Nat} {c : List DV} {h : Zb} {d : DV} {xs : List DV} (hg : Gro T1 sz (HS.set o (.box T c)) h d xs) (ho : o < HS.length) : h[o]? = some (.box T c) := pre_get hg.1 (by rw [List.getElem?_set_self ho])
end
theorem Gro.one {T sz : Nat} {H h : Zb} {d : DV} {xs : List DV} (hg : Gro T sz H h d xs) : d.one = true := by
  rcases hg.2 with ⟨rfl, _⟩ | ⟨g, o, rfl, _, _⟩ <;> rfl
abbrev sgC (p1 p2 p3 p4 : Int) (O C : DV) : List DV := [.int .i64 p1, .int .i64 p2, .int .i64 p3, .int .i64 p4, O, C]
theorem loop13_0 {HS : Zb} {A O R : DV} {a b o n : Nat} {p1 p2 p3 p4 : Int} {Z : List Nat} {zs : List Int} (ho : o < HS.length) (hR : ∀ c h, h.take HS.length = HS.set o (.box 28 c) → vw h 1 R = some (Z.map iD) ∧ vw h 1 O = some (zs.map intD)) (hZ : Z.length = n) (hn : n ≤ 1000) (hlt : ∀ z ∈ Z, z < zs.length) :
    ∀ (k i : Nat) (h : Zb) (d : DV), n - i ≤ k → i ≤ n → Gro 3 1 (HS.set o (.box 28 (sgC p1 p2 p3 p4 d .nils))) h d ((Z.take i).map fun z => intD (zs.getD z 0)) →
      ∃ ex h' d', C X (.loop lp13_0) [(2, A), (3, O), (4, .ref a 0), (8, .ref b 0), (11, .ref o 0), (12, R), (57, R), (58, .int .i64 n), (59, .int .i64 i)] h = some (.exit 1, (2, A) :: (3, O) :: (4, .ref a 0) :: (8, .ref b 0) :: (11, .ref o 0) :: (12, R) :: ex, h') ∧ Gro 3 1 (HS.set o (.box 28 (sgC p1 p2 p3 p4 d' .nils))) h' d' (Z.map fun z => intD (zs.getD z 0)) := by
  intro k
  induction k with
  | zero =>
    intro i h d hk hi hg
    obtain rfl : i = n := by omega
    refine ⟨[(57, R), (58, .int .i64 i), (59, .int .i64 i), (60, .bool false)], h, d, ?_, by rwa [List.take_of_length_le (by omega)] at hg⟩
    rw [Zc]
    unfold lp13_0
    refine rn trivial ?_
    rw [Zz]
    simp [Za, lk]
  | succ k ih =>
    intro i h d hk hi hg
    by_cases c : i < n
    case neg => exact ih i h d (by omega) hi hg
    have c' : (i : Int) < (n : Int) := by omega
    obtain ⟨I, hI'⟩ : ∃ I, I = i + 1 := ⟨_, rfl⟩
    have z1 : IntKind.i64.wrap ((i : Int) + 1) = (I : Int) := (by rw [wrap64 _ (by omega) (by omega)]; omega)
    obtain ⟨z, hz⟩ : ∃ z, Z[i]? = some z := ⟨Z[i]'(by omega), List.getElem?_eq_getElem _⟩
    have hzl := hlt z (List.mem_of_getElem? hz)
    obtain ⟨y, hy⟩ : ∃ y, zs[z]? = some y := ⟨zs[z]'hzl, List.getElem?_eq_getElem _⟩
    have hyg : zs.getD z 0 = y := by rw [List.getD_eq_getElem?_getD, hy]; rfl
    have ht := hg.1
    rw [List.length_set] at ht
    obtain ⟨vR, vO⟩ := hR _ h ht
    obtain ⟨d2, h2, ha, hg2⟩ := hg.app 8 [.int .i64 y] (by simp; omega)
    have hbox := hg.inbox ho
    have hbox2 := hg2.inbox ho
    have hd2 := hg2.one
    have hc2 := cells1 hd2
    unfold DV.cells at hc2
    have hg3 := hg2.boxed (c' := sgC p1 p2 p3 p4 d2 .nils) ho
    have hw := hg.vw
    have hd1 := hg.one
    rw [show ((Z.take i).map fun z => intD (zs.getD z 0)) ++ [DV.int .i64 y] = (Z.take I).map fun z => intD (zs.getD z 0) by
      rw [hI', ← List.take_append_getElem (by omega : i < Z.length), List.map_append]
      rw [List.getElem?_eq_getElem (by omega)] at hz
      injection hz with hz
      simp only [List.map_cons, List.map_nil, hz, hyg]] at hg3
    have y1 : ∀ h, eltL [.int .i64 y] h = some ([.int .i64 y], h) := fun _ => rfl
    have y2 : Wc 1 (.int .i64 y) := by simp [Wc, DV.cells, DV.one]
    have y3 : Nr (.int .i64 y) := .int _ _
    have y4 : ∀ h, srcOf h 1 (.list 1 [.int .i64 y] true) = some [.int .i64 y] := fun _ => rfl
    have zi : i < (Z.map iD).length := by simp; omega
    have zz : z < (zs.map intD).length := by simp; omega
    have q1 : (Z.map iD)[i]? = some (.int .i64 (z : Nat)) := by rw [List.getElem?_map, hz]; rfl
    have q2 : (zs.map intD)[z]? = some (.int .i64 y) := by rw [List.getElem?_map, hy]; rfl
    have q1' : (Z.map iD)[i] = .int .i64 (z : Nat) := by rw [List.getElem?_eq_getElem zi] at q1; injection q1
    have q2' : (zs.map intD)[z] = .int .i64 y := by rw [List.getElem?_eq_getElem zz] at q2; injection q2
    have hs : C X lp13_0 [(2, A), (3, O), (4, .ref a 0), (8, .ref b 0), (11, .ref o 0), (12, R), (57, R), (58, .int .i64 n), (59, .int .i64 i)] h = some (.norm, [(2, A), (3, O), (4, .ref a 0), (8, .ref b 0), (11, .ref o 0), (12, R), (57, R), (58, .int .i64 n), (59, .int .i64 I)], h2.set o (.box 28 (sgC p1 p2 p3 p4 d2 .nils))) := by
      clear hg hg2 hg3 ih ht hR hlt hz hy hyg
      generalize ((Z.take i).map fun z => intD (zs.getD z 0)) = xs at hw ha
      generalize Z.map iD = Zd at *
      generalize zs.map intD = zd at *
      unfold lp13_0
      refine rn0 (fA22 @c @c' @z1 @vR @vO @zi @zz @q1 @q2 @q1' @q2' @hbox @hd1 @y1 @y2 @y3 @y4 @hw @ha @hbox2 @hd2 @hc2) ?_
      simp [Za, lk]
    rw [Zc, hs, ZI]
    exact ih I _ d2 (by omega) (by omega) hg3
theorem loop13_2 {Hh : Zb} {A R : DV} {b o n kk nc : Nat} {Z : List Nat} {ds : List DV} {rs : List (List V)} (hR : ∀ h : Zb, h.take Hh.length = Hh → vw h 1 R = some (Z.map iD) ∧ vw h 1 A = some ds ∧ ∀ (i : Nat) (d : DV) (vs : List V), ds[i]? = some d → rs[i]? = some vs → vw h 4 d = some (vs.map V.d) ∧ d.one = true) (hZ : Z.length = n) (hn : n ≤ 1000) (hdl : ds.length = rs.length) (hlt : ∀ z ∈ Z, z < rs.length) (hkk : ∀ r ∈ rs, kk < r.length) :
    ∀ (k i : Nat) (h : Zb) (d : DV), n - i ≤ k → i ≤ n → Gro 56 4 Hh h d ((colV rs (Z.take i) kk).map V.d) →
      ∃ ex h' d', C X (.loop lp13_2) [(2, A), (8, .ref b 0), (11, .ref o 0), (12, R), (15, .int .i64 kk), (16, d), (75, .int .i64 nc), (76, .int .i64 kk), (79, R), (80, .int .i64 n), (81, .int .i64 i)] h = some (.exit 5, (2, A) :: (8, .ref b 0) :: (11, .ref o 0) :: (12, R) :: (15, .int .i64 kk) :: (16, d') :: (75, .int .i64 nc) :: (76, .int .i64 kk) :: ex, h') ∧ Gro 56 4 Hh h' d' ((colV rs Z kk).map V.d) := by
  intro k
  induction k with
  | zero =>
    intro i h d hk hi hg
    obtain rfl : i = n := by omega
    refine ⟨[(79, R), (80, .int .i64 i), (81, .int .i64 i), (82, .bool false)], h, d, ?_, by rwa [List.take_of_length_le (by omega)] at hg⟩
    rw [Zc]
    unfold lp13_2
    refine rn trivial ?_
    rw [Zz]
    simp [Za, lk]
  | succ k ih =>
    intro i h d hk hi hg
    by_cases c : i < n
    case neg => exact ih i h d (by omega) hi hg
    have c' : (i : Int) < (n : Int) := by omega
    obtain ⟨I, hI'⟩ : ∃ I, I = i + 1 := ⟨_, rfl⟩
    have z1 : IntKind.i64.wrap ((i : Int) + 1) = (I : Int) := (by rw [wrap64 _ (by omega) (by omega)]; omega)
    obtain ⟨z, hz⟩ : ∃ z, Z[i]? = some z := ⟨Z[i]'(by omega), List.getElem?_eq_getElem _⟩
    have hzl := hlt z (List.mem_of_getElem? hz)
    obtain ⟨r, hr⟩ : ∃ r, rs[z]? = some r := ⟨rs[z]'hzl, List.getElem?_eq_getElem _⟩
    have hrk := hkk r (List.mem_of_getElem? hr)
    obtain ⟨v, hv⟩ : ∃ v, r[kk]? = some v := ⟨r[kk]'hrk, List.getElem?_eq_getElem _⟩
    obtain ⟨e, he⟩ : ∃ e, ds[z]? = some e := ⟨ds[z]'(by omega), List.getElem?_eq_getElem _⟩
    have hvg : (rs.getD z []).getD kk v0 = v := by simp [List.getD_eq_getElem?_getD, hr, hv]
    obtain ⟨vR, vA, vE⟩ := hR h hg.1
    obtain ⟨vr, er⟩ := vE z e r he hr
    have hcl : ((colV rs (Z.take i) kk).map V.d).length ≤ 1000 := by unfold colV; simp; omega
    obtain ⟨d2, h2, ha, hg2⟩ := hg.app 40 [v.d] (by simp only [List.length_cons, List.length_nil]; omega)
    have hw := hg.vw
    rw [show (colV rs (Z.take i) kk).map V.d ++ [v.d] = (colV rs (Z.take I) kk).map V.d by
      unfold colV
      rw [hI', ← List.take_append_getElem (by omega : i < Z.length), List.map_append]
      rw [List.getElem?_eq_getElem (by omega)] at hz
      injection hz with hz
      simp only [List.map_append, List.map_cons, List.map_nil, hz, hvg]] at hg2
    have y1 : ∀ h, eltL [v.d] h = some ([v.d], h) := fun _ => rfl
    have y2 : Wc 4 v.d := by simp [Wc, DV.cells, V.d, DV.one]
    have y3 : Nr v.d := v.nr
    have y4 : ∀ h, srcOf h 4 (.list 4 [v.d] true) = some [v.d] := fun _ => rfl
    have zi : i < (Z.map iD).length := by simp; omega
    have q1 : (Z.map iD)[i]? = some (.int .i64 (z : Nat)) := by rw [List.getElem?_map, hz]; rfl
    have q1' : (Z.map iD)[i] = .int .i64 (z : Nat) := by rw [List.getElem?_eq_getElem zi] at q1; injection q1
    have ze : z < ds.length := by omega
    have he' : ds[z] = e := by rw [List.getElem?_eq_getElem ze] at he; injection he
    have zr : kk < (r.map V.d).length := by simpa using hrk
    have q2 : (r.map V.d)[kk]? = some v.d := by rw [List.getElem?_map, hv]; rfl
    have q2' : (r.map V.d)[kk] = v.d := by rw [List.getElem?_eq_getElem zr] at q2; injection q2
    have ec := cells1 er
    unfold DV.cells at ec
    have hs : C X lp13_2 [(2, A), (8, .ref b 0), (11, .ref o 0), (12, R), (15, .int .i64 kk), (16, d), (75, .int .i64 nc), (76, .int .i64 kk), (79, R), (80, .int .i64 n), (81, .int .i64 i)] h = some (.norm, [(2, A), (8, .ref b 0), (11, .ref o 0), (12, R), (15, .int .i64 kk), (16, d2), (75, .int .i64 nc), (76, .int .i64 kk), (79, R), (80, .int .i64 n), (81, .int .i64 I)], h2) := by
      clear hg hg2 ih hR hlt hkk hz hvg vE hcl hv hr
      generalize (colV rs (Z.take i) kk).map V.d = xs at hw ha
      generalize Z.map iD = Zd at *
      generalize r.map V.d = rd at *
      obtain ⟨vk, vn, vs', vt⟩ := v
      simp only [V.d] at *
      unfold lp13_2
      refine rn0 (fA23 @c @c' @z1 @vR @vA @vr @er @ec @zi @ze @zr @he @he' @q1 @q1' @q2 @q2' @y1 @y2 @y3 @y4 @hw @ha) ?_
      simp [Za, lk]
    rw [Zc, hs, ZI]
    exact ih I h2 d2 (by omega) (by omega) hg2
theorem RC.nr {ls : List V} {c : RC} (h : BuiltC ls c) : Nr c.d := by
  unfold RC.d
  refine .agg fun x hx => ?_
  simp only [List.mem_cons, List.mem_nil_iff, or_false] at hx
  rcases hx with rfl | rfl | rfl
  · exact .int _ _
  · rcases h.dict with h1 | ⟨h1, _⟩ <;> rw [h1]
    · exact .list (nr_vals _)
    · exact .nils
  · rw [h.B]
    refine .list fun x hx => ?_
    obtain ⟨y, _, rfl⟩ := List.mem_map.1 hx
    exact .int _ _
/-- The facts that the column loop reads. -/
structure BldV (K : Zb) (o : Nat) (R A : DV) (Z : List Nat) (ds : List DV) (rs : List (List V)) : Prop where
  rd : ∀ c h, h.take K.length = K.set o (.box 28 c) → vw h 1 R = some (Z.map iD) ∧ vw h 1 A = some ds ∧ ∀ (i : Nat) (d : DV) (vs : List V), ds[i]? = some d → rs[i]? = some vs → vw h 4 d = some (vs.map V.d) ∧ d.one = true
  ol : o < K.length
set_option maxHeartbeats 1000000 in
theorem loop13_1 {K : Zb} {A R Oq : DV} {b o n nc : Nat} {p1 p2 p3 p4 : Int} {Z : List Nat} {ds : List DV} {rs : List (List V)} (hK : BldV K o R A Z ds rs) (hO1 : Oq.one = true) (hZ : Z.length = n) (hn : n ≤ 200) (hdl : ds.length = rs.length) (hlt : ∀ z ∈ Z, z < rs.length) (hnc : ∀ r ∈ rs, r.length = nc) (hncl : nc ≤ 100) (hmay : ∀ r ∈ rs, ∀ v ∈ r, mayV v = true) :
    ∀ (q k : Nat) (h : Zb) (d : DV) (cs : List RC), nc - k ≤ q → k ≤ nc → cs.length = k → (∀ j c, cs[j]? = some c → BuiltC (colV rs Z j) c) → Gro 70 3 (K.set o (.box 28 (sgC p1 p2 p3 p4 Oq d))) h d (cs.map RC.d) →
      ∃ (ex : Env) (h' : Zb) (d' : DV) (cs' : List RC), C X (.loop lp13_1) [(2, A), (8, .ref b 0), (11, .ref o 0), (12, R), (75, .int .i64 nc), (76, .int .i64 k)] h = some (.exit 3, (2, A) :: (8, .ref b 0) :: (11, .ref o 0) :: (12, R) :: ex, h') ∧ cs'.length = nc ∧ (∀ j c, cs'[j]? = some c → BuiltC (colV rs Z j) c) ∧ Gro 70 3 (K.set o (.box 28 (sgC p1 p2 p3 p4 Oq d'))) h' d' (cs'.map RC.d) := by
  intro q
  induction q with
  | zero =>
    intro k h d cs hq hk hcl hcs hg
    obtain rfl : k = nc := by omega
    refine ⟨[(75, .int .i64 k), (76, .int .i64 k), (77, .bool false)], h, d, cs, ?_, hcl, hcs, hg⟩
    rw [Zc]
    unfold lp13_1
    refine rn trivial ?_
    rw [Zz]
    simp [Za, lk]
  | succ q ih =>
    intro k h d cs hq hk hcl hcs hg
    by_cases c : k < nc
    case neg => exact ih k h d cs (by omega) hk hcl hcs hg
    have c' : (k : Int) < (nc : Int) := by omega
    obtain ⟨k2, hk2⟩ : ∃ k2, k2 = k + 1 := ⟨_, rfl⟩
    have z1 : IntKind.i64.wrap ((k : Int) + 1) = (k2 : Int) := (by rw [wrap64 _ (by omega) (by omega)]; omega)
    have ht := hg.1
    rw [List.length_set] at ht
    have hpre : ∀ h' : Zb, h'.take h.length = h → vw h' 1 R = some (Z.map iD) ∧ vw h' 1 A = some ds ∧ ∀ (i : Nat) (d : DV) (vs : List V), ds[i]? = some d → rs[i]? = some vs → vw h' 4 d = some (vs.map V.d) ∧ d.one = true := fun h' hh => hK.rd (sgC p1 p2 p3 p4 Oq d) h' (by
      have hl : K.length ≤ h.length := by have := congrArg List.length ht; rw [List.length_take, List.length_set] at this; omega
      have e1 : h'.take K.length = (h'.take h.length).take K.length := by rw [List.take_take, Nat.min_eq_left hl]
      rw [e1, hh, ht])
    obtain ⟨vR, _, _⟩ := hpre h List.take_length
    obtain ⟨ex, h3, vd, hc, hg3⟩ := loop13_2 (b := b) (o := o) (nc := nc) (kk := k) hpre hZ (by omega) hdl hlt (fun r hr => by rw [hnc r hr]; exact c) n 0 h .nils (by omega) (by omega) Gro.zero
    rw [show ((0 : Nat) : Int) = 0 from rfl] at hc
    have hcol : (colV rs Z k).length = n := by unfold colV; rw [List.length_map, hZ]
    have hvv : ∀ g : Zb, g.take h3.length = h3 → vw g 4 vd = some ((colV rs Z k).map V.d) := fun g hh => pre_vw hh hg3.vw
    have hcm : ∀ v ∈ colV rs Z k, mayV v = true := fun v hv => by
      unfold colV at hv
      obtain ⟨z, hz, rfl⟩ := List.mem_map.1 hv
      have hzl := hlt z hz
      have hr : rs.getD z [] = rs[z] := by simp [List.getD_eq_getElem?_getD, hzl]
      rw [hr]
      have hm := List.getElem_mem hzl
      have hkl : k < rs[z].length := by rw [hnc _ hm]; exact c
      rw [List.getD_eq_getElem?_getD, List.getElem?_eq_getElem hkl]
      exact hmay _ hm _ (List.getElem_mem _)
    rcases run36r (H := h3) hvv (by omega) with ⟨Sd, ys, e36, hS, hU, hm, hyl, hm2⟩ | ⟨_, v, hv, hmv⟩
    case inr => exact absurd (hcm v hv) (by rw [hmv]; simp)
    obtain ⟨cc, hcc⟩ : ∃ cc : RC, cc = ⟨((colV rs Z k).length : Nat), ys, pack ((colV rs Z k).map (place ys)) (wC ys.length), Sd, .list 1 ((pack ((colV rs Z k).map (place ys)) (wC ys.length)).map bD) false⟩ := ⟨_, rfl⟩
    have hbc : BuiltC (colV rs Z k) cc := by
      rw [hcc]; exact ⟨rfl, rfl, hU, hm, hyl, hm2, hS, rfl⟩
    have hccd : cc.d = colD ((colV rs Z k).length : Nat) Sd (.list 1 ((pack ((colV rs Z k).map (place ys)) (wC ys.length)).map bD) false) := by rw [hcc]; rfl
    rw [← hccd] at e36
    -- the box of the column
    obtain ⟨h4, hh4⟩ : ∃ h4, h4 = h3 ++ [HO.box 70 [.int .i64 cc.n, cc.D, cc.B]] := ⟨_, rfl⟩
    have hgh : Gro 70 3 (K.set o (.box 28 (sgC p1 p2 p3 p4 Oq d))) h4 d (cs.map RC.d) := by
      obtain ⟨G, hG⟩ := take_split hg3.1
      rw [hh4, hG, List.append_assoc]
      exact hg.ext _
    obtain ⟨d2, h5, ha, hg5⟩ := hgh.app 56 [cc.d] (by simp only [List.length_map, List.length_cons, List.length_nil]; omega)
    have hb4 := hgh.inbox hK.ol
    have hb5 := hg5.inbox hK.ol
    have hb3 : h3[o]? = some (.box 28 (sgC p1 p2 p3 p4 Oq d)) := pre_get hg3.1 (hg.inbox hK.ol)
    have hd2 := hg5.one
    have hc2 := cells1 hd2
    unfold DV.cells at hc2
    have hw := hgh.vw
    have hd1 := hgh.one
    have hg6 := hg5.boxed (c' := sgC p1 p2 p3 p4 Oq d2) hK.ol
    have ebl : h4[h3.length]? = some (.box 70 [.int .i64 cc.n, cc.D, cc.B]) := by rw [hh4]; simp
    rw [show cs.map RC.d ++ [cc.d] = (cs ++ [cc]).map RC.d by rw [List.map_append]; rfl] at hg6
    have hcs2 : ∀ j c, (cs ++ [cc])[j]? = some c → BuiltC (colV rs Z j) c := fun j c hj => by
      by_cases e : j < cs.length
      · rw [List.getElem?_append_left e] at hj; exact hcs j c hj
      · have hl := (List.getElem?_eq_some_iff.1 hj).1
        rw [List.length_append, List.length_cons, List.length_nil] at hl
        have : j = cs.length := by omega
        subst this
        rw [List.getElem?_append_right (Nat.le_refl _), Nat.sub_self] at hj
        injection hj with hj
        rw [← hj, hcl]; exact hbc
    have y1 : ∀ h, eltL [cc.d] h = some ([cc.d], h) := fun h => by
      unfold RC.d
      rcases hbc.dict with h1 | ⟨h1, _⟩ <;> rw [h1, hbc.B] <;> rfl
    have y2 : Wc 3 cc.d := by
      unfold RC.d
      rcases hbc.dict with h1 | ⟨h1, _⟩ <;> rw [h1, hbc.B] <;> simp [Wc, DV.cells, DV.one]
    have y3 : Nr cc.d := RC.nr hbc
    have y4 : ∀ h, srcOf h 3 (.list 3 [cc.d] true) = some [cc.d] := fun _ => rfl
    have hD1 : cc.D.one = true := hbc.dict.one
    have hB1 : cc.B.one = true := by rw [hbc.B]; rfl
    have hs : C X lp13_1 [(2, A), (8, .ref b 0), (11, .ref o 0), (12, R), (75, .int .i64 nc), (76, .int .i64 k)] h = some (.norm, [(2, A), (8, .ref b 0), (11, .ref o 0), (12, R), (75, .int .i64 nc), (76, .int .i64 k2)], h5.set o (.box 28 (sgC p1 p2 p3 p4 Oq d2))) := by
      have hZl : (Z.map iD).length = n := by rw [List.length_map, hZ]
      clear hg hg3 hg5 hg6 hgh ih hpre hK hlt hnc hmay hcs hcs2 hbc hcm hvv hm hm2 hU hS hyl hcc hccd ht
      generalize cs.map RC.d = xs at hw ha
      generalize Z.map iD = Zd at *
      unfold RC.d at *
      obtain ⟨cn, cys, cbs, cD, cB⟩ := cc
      simp only at *
      unfold lp13_1
      refine rn (fA4 @c @c' @vR @hZl) ?_
      refine keG ?_
      rw [hc]
      subst hh4
      refine rn0 (fA17 @z1 @e36 @hb3 @hb4 @hb5 @hd1 @hd2 @hc2 @hD1 @hB1 @y1 @y2 @y3 @y4 @hw @ha @ebl) ?_
      simp [Za, lk]
    rw [Zc, hs, ZI]
    exact ih k2 _ d2 (cs ++ [cc]) (by omega) (by omega) (by rw [List.length_append, List.length_cons, List.length_nil]; omega) hcs2 hg6
section
variable {K h : Zb} {o : Nat} {x : HO}
theorem pre_at (ht : h.take K.length = K.set o x) {j : Nat} (hj : j < K.length) (hjo : j ≠ o) : h[j]? = K[j]? := by
  have : (h.take K.length)[j]? = (K.set o x)[j]? := by rw [ht]
  rw [List.getElem?_take_of_lt hj, List.getElem?_set_ne (fun h => hjo h.symm)] at this
  exact this
theorem pre_low {H : Zb} (ht : h.take K.length = K.set o x) (hl : H.length ≤ o) (hol : o < K.length) (hK : K.take H.length = H) : h.take H.length = H := by
  have e1 : h.take H.length = (h.take K.length).take H.length := by rw [List.take_take, Nat.min_eq_left (by omega)]
  rw [e1, ht, List.take_set_of_le hl, hK]
theorem RowIs.pre {N T sz : Nat} {d : DV} {xs : List DV} (hr : RowIs N T sz K d xs) (hN : o < N) (ht : h.take K.length = K.set o x) : RowIs N T sz h d xs := by
  rcases hr with h1 | ⟨g, q, h1, h2, h3⟩
  · exact .inl h1
  · refine .inr ⟨g, q, h1, h2, ?_⟩
    have hq : q < K.length := by
      rcases h3 with h3 | h3 <;> exact (List.getElem?_eq_some_iff.1 h3).1
    rw [pre_at ht hq (by omega)]
    exact h3
theorem RowIs.set {N T sz b : Nat} {d : DV} {xs : List DV} {y : HO} (hr : RowIs N T sz h d xs) (hb : b < N) : RowIs N T sz (h.set b y) d xs := by
  rcases hr with h1 | ⟨g, q, h1, h2, h3⟩
  · exact .inl h1
  · exact .inr ⟨g, q, h1, h2, by rw [List.getElem?_set_ne (by omega)]; exact h3⟩
theorem RowIs.vw {N T sz : Nat} {d : DV} {xs : List DV} (hr : RowIs N T sz h d xs) : Go.Proofs.YtmbgfbomgbdjeaaGreatDoor.vw h sz d = some xs := by
  rcases hr with ⟨rfl, rfl⟩ | ⟨g, q, rfl, h2, h3⟩
  · rfl
  · rcases h3 with h3 | h3 <;> simp [Go.Proofs.YtmbgfbomgbdjeaaGreatDoor.vw, h3, List.take_of_length_le]
end
theorem fitV_may {c : Cl} {v : V} (h : fitV c v = true) : mayV v = true := by
  unfold fitV at h
  simp only [Bool.and_eq_true] at h
  exact h.1
theorem fitsL_may : ∀ (cs : List Cl) (vs : List V), cs.length = vs.length → fitsL cs vs = true → ∀ v ∈ vs, mayV v = true
  | [], [], _, _ => by simp
  | [], _ :: _, h, _ => by simp at h
  | _ :: _, [], h, _ => by simp at h
  | c :: cs, v :: vs, hl, h => by
    simp only [fitsL, Bool.and_eq_true] at h
    intro w hw
    rcases List.mem_cons.1 hw with rfl | hw
    · exact fitV_may h.1
    · exact fitsL_may cs vs (by simpa using hl) h.2 w hw
theorem fitsV_may {s : Sch} {r : List V} (h : fitsV s r = true) : ∀ v ∈ r, mayV v = true := by
  have hl := fitsV_len h
  unfold fitsV at h
  simp only [Bool.and_eq_true, decide_eq_true_eq] at h
  exact fitsL_may _ _ hl.symm h.2.2
theorem mat_order {d : DV} {Z : List Nat} {H : Zb} (hd : FreshI d Z) : ∃ R G, mat d H = (R, H ++ G) ∧ RowIs H.length 3 1 (H ++ G) R (Z.map iD) ∧ R.one = true := by
  rcases hd with ⟨rfl, rfl⟩ | rfl
  · exact ⟨.nils, [], by simp [mat], .inl ⟨rfl, rfl⟩, rfl⟩
  · refine ⟨.row H.length 0 0 (Z.map iD).length false, [.row 3 1 0 (Z.map iD)], by simp [mat], .inr ⟨0, H.length, rfl, Nat.le_refl _, .inl (by simp)⟩, rfl⟩
set_option maxHeartbeats 2000000 in
theorem run13 {H : Zb} {Cd A O Of Cs : DV} {s : Sch} {p1 p2 p3 p4 : Int} {ds : List DV} {rs : List (List V)} {zs : List Int} (hC : ∀ g, vw g 3 Cd = some (s.cols.map Cl.d)) (hCd1 : Cd.one = true) (hl : s.cols.length ≤ 1000) (hA1 : A.one = true) (hA : ∀ G, vw (H ++ G) 1 A = some ds) (hE : RowsG H ds rs) (hb : rs.length ≤ 200) (hO : ∀ G, vw (H ++ G) 1 O = some (zs.map intD)) (hok : BldOk s p1 p2 p3 p4 rs zs) :
    ∃ O' C' R' Z cs, E X 13 [Yq Cd s, .agg [.int .i64 p1, .int .i64 p2, .int .i64 p3, .int .i64 p4, Of, Cs], A, O] H = some (.tup [.agg [.int .i64 p1, .int .i64 p2, .int .i64 p3, .int .i64 p4, O', C'], R', .int .i64 0], H) ∧ OrdZ s rs Z ∧ BldC s rs Z cs ∧ LstIs 1 R' (Z.map iD) ∧ LstIs 1 O' (Z.map fun z => intD (zs.getD z 0)) ∧ LstIs 3 C' (cs.map RC.d) := by
  obtain ⟨k1, k2, k3, k4⟩ := hok
  obtain ⟨HB, hHB⟩ : ∃ HB, HB = H ++ [HO.box 24 [Cd, .int .i64 s.key, .int .i64 s.cmp, .int .i64 s.del, .int .i64 s.sort], .box 28 [.int .i64 p1, .int .i64 p2, .int .i64 p3, .int .i64 p4, Of, Cs], .box 28 [.int .i64 0, .int .i64 0, .int .i64 0, .int .i64 0, .nils, .nils]] := ⟨_, rfl⟩
  obtain ⟨H1, hH1⟩ : ∃ H1, H1 = H ++ [HO.box 24 [Cd, .int .i64 s.key, .int .i64 s.cmp, .int .i64 s.del, .int .i64 s.sort], .box 28 [.int .i64 p1, .int .i64 p2, .int .i64 p3, .int .i64 p4, Of, Cs], .box 28 [.int .i64 0, .int .i64 0, .int .i64 0, .int .i64 0, .nils, .nils], .box 28 (sgC p1 p2 p3 p4 .nils .nils)] := ⟨_, rfl⟩
  have hAB : ∀ G, vw (HB ++ G) 1 A = some ds := fun G => by rw [hHB, List.append_assoc]; exact hA _
  have hOB : ∀ G, vw (HB ++ G) 1 O = some (zs.map intD) := fun G => by rw [hHB, List.append_assoc]; exact hO _
  have hA0 : vw HB 1 A = some ds := by have := hAB []; rwa [List.append_nil] at this
  have hO0 : vw HB 1 O = some (zs.map intD) := by have := hOB []; rwa [List.append_nil] at this
  have hEB : RowsG HB ds rs := by rw [hHB]; exact hE.ext _
  have hAH1 : ∀ G, vw (H1 ++ G) 1 A = some ds := fun G => by rw [hH1, List.append_assoc]; exact hA _
  have hEH1 : RowsG H1 ds rs := by rw [hH1]; exact hE.ext _
  have e33 := run33v p1 p2 p3 p4 Of Cs
  rw [k1] at e33
  have e34 := run34 (H := HB) (A := A) hC hl hAB hEB (by omega)
  rw [k2] at e34
  obtain ⟨b35, e35, hr35⟩ := run35 (H := HB) (L := O) (Of := Of) (Cs := Cs) (p1 := p1) (p2 := p2) (p3 := p3) (p4 := p4) hOB (by omega)
  rw [hr35.2 k4] at e35
  rcases run17 (H := H1) (Cd := Cd) (s := s) hC hCd1 hl hA1 hAH1 hEH1 (by omega) with ⟨hf, _⟩ | ⟨_, d, Z, e17, hd, hZ⟩
  case inl => rw [k2] at hf; cases hf
  have hAu : A.isU = false := by cases A <;> first | rfl | simp [DV.one] at hA1
  have hAc := cells1 hA1
  unfold DV.cells at hAc
  unfold DV.isU at hAu
  have hdl : ds.length = rs.length := hE.1
  have hlz : (zs.map intD).length = zs.length := List.length_map _
  obtain ⟨R, G, hmat, hRi, hR1⟩ := mat_order (H := H1) hd
  obtain ⟨HS, hHS⟩ : ∃ HS, HS = H1 ++ G := ⟨_, rfl⟩
  rw [← hHS] at hmat hRi
  obtain ⟨o, ho⟩ : ∃ o, o = H.length + 3 := ⟨_, rfl⟩
  have hH1l : H1.length = o + 1 := by rw [hH1, ho]; simp
  have hoS : o < HS.length := by rw [hHS, List.length_append]; omega
  have hSo : HS[o]? = some (.box 28 (sgC p1 p2 p3 p4 .nils .nils)) := by
    rw [hHS, List.getElem?_append_left (by omega), hH1, ho]; simp
  have hSH : HS.take H.length = H := by rw [hHS, hH1, List.append_assoc]; exact List.take_left
  have hZl : Z.length = rs.length := by rw [hZ.perm.length_eq]; simp
  have hlt : ∀ z ∈ Z, z < rs.length := fun z hz => List.mem_range.1 (hZ.perm.mem_iff.1 hz)
  have selfS : HS.set o (.box 28 (sgC p1 p2 p3 p4 .nils .nils)) = HS := by
    apply List.ext_getElem?
    intro j
    by_cases e : o = j
    · subst e; rw [List.getElem?_set_self hoS, hSo]
    · rw [List.getElem?_set_ne e]
  have hol : H.length ≤ o := by omega
  obtain ⟨ex0, h1, Oq, hc0, hg0⟩ := loop13_0 (HS := HS) (A := A) (O := O) (R := R) (a := H.length) (b := H.length + 2) (o := o) (n := rs.length) (p1 := p1) (p2 := p2) (p3 := p3) (p4 := p4) (Z := Z) (zs := zs) hoS (fun c h ht => by
    have hp := pre_low ht hol hoS hSH
    obtain ⟨G2, hG2⟩ := take_split hp
    exact ⟨(hRi.pre (by omega) ht).vw, by rw [hG2]; exact hO _⟩) hZl (by omega) (fun z hz => by have := hlt z hz; omega) rs.length 0 HS .nils (by omega) (by omega) (by rw [selfS]; exact Gro.zero)
  rw [show ((0 : Nat) : Int) = 0 from rfl] at hc0
  have ht1 := hg0.1
  rw [List.length_set] at ht1
  have h1l : HS.length ≤ h1.length := by have := congrArg List.length ht1; rw [List.length_take, List.length_set] at this; omega
  have ho1 : o < h1.length := by omega
  have h1o := hg0.inbox hoS
  have h1H := pre_low ht1 hol hoS hSH
  have self1 : h1.set o (.box 28 (sgC p1 p2 p3 p4 Oq .nils)) = h1 := by
    apply List.ext_getElem?
    intro j
    by_cases e : o = j
    · subst e; rw [List.getElem?_set_self ho1, h1o]
    · rw [List.getElem?_set_ne e]
  have hRi1 : RowIs (o + 1) 3 1 h1 R (Z.map iD) := by
    have := hRi.pre (by omega) ht1
    rwa [hH1l] at this
  have hOi1 : RowIs (o + 1) 3 1 h1 Oq (Z.map fun z => intD (zs.getD z 0)) := hg0.is.low (by rw [List.length_set]; omega)
  have hfits := fitA_fits k2
  have hK : BldV h1 o R A Z ds rs := ⟨fun c h ht => by
    have hp := pre_low ht hol ho1 h1H
    obtain ⟨G2, hG2⟩ := take_split hp
    refine ⟨(hRi1.pre (by omega) ht).vw, by rw [hG2]; exact hA _, fun i d vs h1 h2 => ?_⟩
    obtain ⟨q1, q2⟩ := hE.2 i d vs h1 h2
    exact ⟨by rw [hG2]; exact q1 _, q2⟩, ho1⟩
  obtain ⟨ex1, h2, Cq, cs, hc1, hcl, hcb, hg1⟩ := loop13_1 (K := h1) (A := A) (R := R) (Oq := Oq) (b := H.length + 2) (o := o) (n := rs.length) (nc := s.cols.length) (p1 := p1) (p2 := p2) (p3 := p3) (p4 := p4) (Z := Z) hK hg0.one hZl hb hdl hlt (fun r hr => fitsV_len (hfits.2 r hr)) (by have := (smayV_sort hfits.1).2.1; omega) (fun r hr => fitsV_may (hfits.2 r hr)) s.cols.length 0 h1 .nils [] (by omega) (by omega) rfl (fun j c hj => by simp at hj) (by rw [self1]; exact Gro.zero)
  rw [show ((0 : Nat) : Int) = 0 from rfl] at hc1
  have ht2 := hg1.1
  rw [List.length_set] at ht2
  have h2o := hg1.inbox ho1
  have h2H := pre_low ht2 hol ho1 h1H
  have h1a : h1[H.length]? = some (.box 24 [Cd, .int .i64 s.key, .int .i64 s.cmp, .int .i64 s.del, .int .i64 s.sort]) := by
    rw [pre_at ht1 (by omega) (by omega), hHS, List.getElem?_append_left (by omega), hH1]; simp
  have h2b : h2[H.length + 2]? = some (.box 28 [.int .i64 0, .int .i64 0, .int .i64 0, .int .i64 0, .nils, .nils]) := by
    rw [pre_at ht2 (by omega) (by omega), pre_at ht1 (by omega) (by omega), hHS, List.getElem?_append_left (by omega), hH1]; simp
  have h2l := (List.getElem?_eq_some_iff.1 h2b).1
  obtain ⟨h3, hh3⟩ : ∃ h3, h3 = h2.set (H.length + 2) (.box 28 (sgC p1 p2 p3 p4 Oq Cq)) := ⟨_, rfl⟩
  have h3b : h3[H.length + 2]? = some (.box 28 (sgC p1 p2 p3 p4 Oq Cq)) := by rw [hh3, List.getElem?_set_self h2l]
  have hOc := hg0.one
  have hCc := hg1.one
  obtain ⟨O', C', R', hfin, l1, l2, l3⟩ := fin_seg (H := H) (h := h3) (p1 := p1) (p2 := p2) (p3 := p3) (p4 := p4) (Oq := Oq) (Cd := Cq) (R := R) (by rw [hh3, List.take_set_of_le (by omega)]; exact h2H) (by rw [hh3]; exact ((hOi1.pre (by omega) ht2).set (by omega)).low (by omega)) (by rw [hh3]; exact ((hg1.is.low (M := o + 1) (by rw [List.length_set]; omega)).set (by omega)).low (by omega)) (by rw [hh3]; exact ((hRi1.pre (by omega) ht2).set (by omega)).low (by omega)) (fun x hx => by obtain ⟨y, _, rfl⟩ := List.mem_map.1 hx; exact .int _ _) (fun x hx => by
    obtain ⟨y, hy, rfl⟩ := List.mem_map.1 hx
    obtain ⟨j, hj, rfl⟩ := List.mem_iff_getElem.1 hy
    exact RC.nr (hcb j _ (List.getElem?_eq_getElem hj))) (fun x hx => by obtain ⟨y, _, rfl⟩ := List.mem_map.1 hx; exact .int _ _)
  refine ⟨O', C', R', Z, cs, ?_, hZ, ⟨hcl, hcb⟩, l3, l1, l2⟩
  have hRv : vw HS 1 R = some (Z.map iD) := hRi.vw
  have hZd : (Z.map iD).length = rs.length := by rw [List.length_map, hZl]
  have hcols : (s.cols.map Cl.d).length = s.cols.length := List.length_map _
  have m1 : ¬ (4096 : Int) < (rs.length : Int) := by omega
  have m2 : ¬ 4096 < rs.length := by omega
  clear hAB hOB hEB hAH1 hEH1 hA hO hE hr35 hRi hRi1 hOi1 hK hg0 hg1 hcb l1 l2 l3 hfits hZ ht1 ht2 h1H h2H self1 selfS hSH hlt k4
  subst hHB
  subst hH1
  subst ho
  obtain ⟨cols, k1', k2', k3', k4'⟩ := s
  simp only [Yq, Yl] at *
  generalize Z.map iD = Zd at *
  rcases hd with ⟨rfl, _⟩ | rfl
  · simp only [mat, Prod.mk.injEq] at hmat
    obtain ⟨rfl, rfl⟩ := hmat
    rw [ZB (X := X) _ b13 _ rfl rfl]; unfold b13
    refine rn0 (fA17 @hCd1 @hA1 @hAu @hAc @e33 @e34 @e35 @e17 @hA0 @hO0 @hdl @hlz @hZd @hRv @k3 @m1 @m2) ?_
    refine keG ?_
    rw [hc0]
    refine rn0 (fA3 @h1a @hC @hcols) ?_
    refine keG ?_
    rw [hc1]
    refine rn0 (fA4 @h2o @hOc @hCc @h2b) ?_
    rw [← hh3]
    simp only [Zn, ZY, lk, Za, List.map_cons, List.map_nil, reduceIte, Option.map_some, Nat.reduceEqDiff]
    rw [Zo, h3b]
    exact congrArg some hfin
  · simp only [mat, Prod.mk.injEq] at hmat
    obtain ⟨rfl, rfl⟩ := hmat
    simp only [List.length_append, List.length_cons, List.length_nil, Nat.zero_add, Nat.reduceAdd, List.append_assoc, List.cons_append, List.nil_append, List.length_map] at hRv hc0 hc1 hfin
    rw [ZB (X := X) _ b13 _ rfl rfl]; unfold b13
    refine rn0 (fA17 @hCd1 @hA1 @hAu @hAc @e33 @e34 @e35 @e17 @hA0 @hO0 @hdl @hlz @hZd @hRv @k3 @m1 @m2) ?_
    refine keG ?_
    rw [hc0]
    refine rn0 (fA3 @h1a @hC @hcols) ?_
    refine keG ?_
    rw [hc1]
    refine rn0 (fA4 @h2o @hOc @hCc @h2b) ?_
    rw [← hh3]
    simp only [Zn, ZY, lk, Za, List.map_cons, List.map_nil, reduceIte, Option.map_some, Nat.reduceEqDiff]
    rw [Zo, h3b]
    exact congrArg some hfin
/-- The rows in the order in which they are sealed, and their offsets. -/
def rowsZ (rs : List (List V)) (Z : List Nat) : List (List V) := Z.map fun z => rs.getD z []
def offZ (zs : List Int) (Z : List Nat) : List Int := Z.map fun z => zs.getD z 0
section
variable {s : Sch} {rs : List (List V)} {zs : List Int} {Z : List Nat} {cs : List RC} {p1 p2 p3 p4 : Int}
theorem OrdZ.len (h : OrdZ s rs Z) : Z.length = rs.length := by rw [h.perm.length_eq]; simp
theorem OrdZ.lt (h : OrdZ s rs Z) : ∀ z ∈ Z, z < rs.length := fun z hz => List.mem_range.1 (h.perm.mem_iff.1 hz)
theorem OrdZ.uniq {W : List Nat} (h : OrdZ s rs Z) (h' : OrdZ s rs W) : Z = W := by
  have ht : ∀ x y z : Nat, Lx (rowC s rs) x y → Lx (rowC s rs) y z → Lx (rowC s rs) x z := by
    intro x y z h1 h2
    have a1 := rowC_anti s rs
    have a2 := rowC_trans s rs
    unfold Lx at *
    have b1 := a2 x y z (by omega) (by omega)
    have c1 := a1 x z; have c2 := a1 z x; have c3 := a1 y z; have c4 := a1 z y; have c5 := a1 x y; have c6 := a1 y x
    by_cases e : rowC s rs x z = 0
    · have d1 := a2 z x y (by omega) (by omega)
      have d2 := a2 y z x (by omega) (by omega)
      right; omega
    · left; omega
  have hir : ∀ x : Nat, ¬ Lx (rowC s rs) x x := by
    intro x h
    have := rowC_anti s rs x x
    unfold Lx at h
    omega
  have hp : Z.Perm W := h.perm.trans h'.perm.symm
  have h1 := h.lx
  have h2 := h'.lx
  clear h h'
  induction Z generalizing W with
  | nil => exact (List.nil_perm.1 hp).symm
  | cons a Z ih =>
    cases W with
    | nil => exact absurd (List.perm_nil.1 hp) (by simp)
    | cons b W =>
      have e : a = b := by
        have ha : a ∈ b :: W := hp.mem_iff.1 (by simp)
        have hb : b ∈ a :: Z := hp.mem_iff.2 (by simp)
        rcases List.mem_cons.1 ha with e | ha
        · exact e
        rcases List.mem_cons.1 hb with e | hb
        · exact e.symm
        exact absurd (ht _ _ _ ((List.pairwise_cons.1 h1).1 b hb) ((List.pairwise_cons.1 h2).1 a ha)) (hir a)
      subst e
      rw [ih ((List.perm_cons a).1 hp) (List.pairwise_cons.1 h1).2 (List.pairwise_cons.1 h2).2]
theorem risOk_pw (h : RisOk p3 p4 zs) : zs.Pairwise (· < ·) := by
  rw [List.pairwise_iff_getElem]
  intro i j hi hj hij
  induction j with
  | zero => omega
  | succ j ih =>
    have hj' : j < zs.length := by omega
    have h1 := (h (j + 1) hj zs[j + 1] (List.getElem?_eq_getElem hj)).2.2 (by omega) zs[j] (by simp [List.getElem?_eq_getElem hj'])
    by_cases e : i = j
    · subst e; exact h1
    · exact Int.lt_trans (ih hj' (by omega)) h1
theorem offZ_perm (h : OrdZ s rs Z) (hl : zs.length = rs.length) : (offZ zs Z).Perm zs := by
  have h1 : (offZ zs Z).Perm ((List.range zs.length).map fun z => zs.getD z 0) := by
    unfold offZ
    rw [hl]
    exact h.perm.map _
  have h2 : ((List.range zs.length).map fun z => zs.getD z 0) = zs := by
    apply List.ext_getElem
    · simp
    · intro i a b
      simp [List.getD_eq_getElem?_getD, b]
  rwa [h2] at h1
theorem srtI_perm' (ws : List Int) : (srtI ws).Perm ws := List.mergeSort_perm _ _
theorem srtI_up (ws : List Int) : (srtI ws).Pairwise (· ≤ ·) := by
  have := List.pairwise_mergeSort (le := fun (x y : Int) => decide (x ≤ y)) (fun a b c h1 h2 => by simp at *; omega) (fun a b => by simp; omega) ws
  unfold srtI
  exact this.imp (fun h => by simpa using h)
theorem le_uniq : ∀ {xs ys : List Int}, xs.Perm ys → xs.Pairwise (· ≤ ·) → ys.Pairwise (· ≤ ·) → xs = ys := by
  intro xs
  induction xs with
  | nil => intro ys hp _ _; exact (List.nil_perm.1 hp).symm
  | cons a xs ih =>
    intro ys hp h1 h2
    cases ys with
    | nil => exact absurd (List.perm_nil.1 hp) (by simp)
    | cons b ys =>
      have e : a = b := by
        have ha : a ∈ b :: ys := hp.mem_iff.1 (by simp)
        have hb : b ∈ a :: xs := hp.mem_iff.2 (by simp)
        rcases List.mem_cons.1 ha with e | ha
        · exact e
        rcases List.mem_cons.1 hb with e | hb
        · exact e.symm
        have := (List.pairwise_cons.1 h1).1 b hb
        have := (List.pairwise_cons.1 h2).1 a ha
        omega
      subst e
      rw [ih ((List.perm_cons a).1 hp) (List.pairwise_cons.1 h1).2 (List.pairwise_cons.1 h2).2]
theorem offZ_srt (h : OrdZ s rs Z) (hl : zs.length = rs.length) (hr : RisOk p3 p4 zs) : srtI (offZ zs Z) = zs :=
  le_uniq ((srtI_perm' _).trans (offZ_perm h hl)) (srtI_up _) ((risOk_pw hr).imp (fun h => by omega))
theorem colV_len (k : Nat) : (colV rs Z k).length = Z.length := by simp [colV]
theorem built_rows (hC : BldC s rs Z cs) (hlen : ∀ r ∈ rs, r.length = s.cols.length) (hZ : ∀ z ∈ Z, z < rs.length) (hl : Z.length ≤ 200) : rowsS (cs.map RC.sc) Z.length = rowsZ rs Z := by
  apply List.ext_getElem
  · simp [rowsS, rowsZ]
  · intro i h1 h2
    have hi : i < Z.length := by simpa [rowsZ] using h2
    have hzi := hZ _ (List.getElem_mem hi)
    have hr : rs.getD Z[i] [] = rs[Z[i]] := by simp [List.getD_eq_getElem?_getD, hzi]
    have hrl := hlen _ (List.getElem_mem hzi)
    have e1 : (rowsS (cs.map RC.sc) Z.length)[i] = (cs.map RC.sc).map fun c => c.val i := by simp [rowsS, rowS]
    have e2 : (rowsZ rs Z)[i] = rs.getD Z[i] [] := by simp [rowsZ]
    rw [e1, e2, hr]
    apply List.ext_getElem
    · simp [hC.len, hrl]
    · intro k k1 k2
      have hk : k < cs.length := by simpa using k1
      have hb := hC.col k _ (List.getElem?_eq_getElem hk)
      simp only [List.getElem_map]
      apply hb.val (by rw [colV_len]; exact hl)
      unfold colV
      rw [List.getElem?_map, List.getElem?_eq_getElem hi]
      simp only [Option.map_some]
      rw [hr, List.getD_eq_getElem?_getD, List.getElem?_eq_getElem k2]
      rfl
theorem fitA_perm (hf : fitA s rs = true) (hZ : ∀ z ∈ Z, z < rs.length) : fitA s (rowsZ rs Z) = true := by
  obtain ⟨h1, h2⟩ := fitA_fits hf
  unfold fitA
  simp only [Bool.and_eq_true, Bool.not_eq_true', List.any_eq_false]
  refine ⟨h1, fun r hr => ?_⟩
  unfold rowsZ at hr
  obtain ⟨z, hz, rfl⟩ := List.mem_map.1 hr
  have hzi := hZ z hz
  have e : rs.getD z [] = rs[z] := by simp [List.getD_eq_getElem?_getD, hzi]
  rw [e, h2 _ (List.getElem_mem hzi)]
  simp
/-- What is built may be. -/
theorem built_may (hok : BldOk s p1 p2 p3 p4 rs zs) (hZ : OrdZ s rs Z) (hC : BldC s rs Z cs) (hb : rs.length ≤ 200) : MayOk s p1 p2 p3 p4 (offZ zs Z) cs := by
  obtain ⟨k1, k2, k3, k4⟩ := hok
  have hfits := fitA_fits k2
  have hlen : ∀ r ∈ rs, r.length = s.cols.length := fun r hr => fitsV_len (hfits.2 r hr)
  have hZl := hZ.len
  have hol : (offZ zs Z).length = Z.length := by simp [offZ]
  have hrows := built_rows hC hlen hZ.lt (by omega)
  refine ⟨fun c hc => ?_, k1, hC.len, ?_, ?_, fun j h1 h2 => ?_⟩
  · obtain ⟨k, hk, rfl⟩ := List.mem_iff_getElem.1 hc
    have hbc := hC.col k _ (List.getElem?_eq_getElem hk)
    refine ⟨by rw [hbc.n, colV_len, hol], hbc.okC (by rw [colV_len]; omega)⟩
  · rw [hol, hrows]; exact fitA_perm k2 hZ.lt
  · rw [offZ_srt hZ k3 k4]; exact k4
  · rw [hol] at h2 ⊢
    rw [hrows]
    have hj1 : j - 1 < Z.length := by omega
    have g1 : (rowsZ rs Z).getD (j - 1) [] = rs.getD Z[j - 1] [] := by simp [rowsZ, List.getD_eq_getElem?_getD, hj1]
    have g2 : (rowsZ rs Z).getD j [] = rs.getD Z[j] [] := by simp [rowsZ, List.getD_eq_getElem?_getD, h2]
    have g3 : (offZ zs Z).getD (j - 1) 0 = zs.getD Z[j - 1] 0 := by simp [offZ, List.getD_eq_getElem?_getD, hj1]
    have g4 : (offZ zs Z).getD j 0 = zs.getD Z[j] 0 := by simp [offZ, List.getD_eq_getElem?_getD, h2]
    unfold MayAt
    rw [g1, g2, g3, g4]
    have hx : Lx (rowC s rs) Z[j - 1] Z[j] := (List.pairwise_iff_getElem.1 hZ.lx) (j - 1) j hj1 h2 (by omega)
    have hz1 := hZ.lt _ (List.getElem_mem hj1)
    have hz2 := hZ.lt _ (List.getElem_mem h2)
    have hup := List.pairwise_iff_getElem.1 (risOk_pw k4)
    unfold Lx rowC at hx
    refine ⟨by omega, fun h0 => ?_⟩
    rcases hx with hx | ⟨_, hx⟩
    · omega
    · have := hup Z[j - 1] Z[j] (by omega) (by omega) hx
      simpa [List.getD_eq_getElem?_getD, (by omega : Z[j - 1] < zs.length), (by omega : Z[j] < zs.length)] using this
end
theorem LstIs.numsA {d : DV} {ws : List Int} {xs : List DV} (h : LstIs 1 d xs) (hx : xs = ws.map intD) : NumsA d ws := by
  rcases h with ⟨rfl, h0⟩ | rfl
  · left
    refine ⟨rfl, ?_⟩
    rw [h0] at hx
    exact List.map_eq_nil_iff.1 hx.symm
  · right; rw [hx]
theorem LstIs.vw {sz : Nat} {d : DV} {xs : List DV} (h : LstIs sz d xs) (g : Zb) : vw g sz d = some xs := by
  rcases h with ⟨rfl, rfl⟩ | rfl
  · rfl
  · simp [Go.Proofs.YtmbgfbomgbdjeaaGreatDoor.vw]
theorem LstIs.one {sz : Nat} {d : DV} {xs : List DV} (h : LstIs sz d xs) : d.one = true := by
  rcases h with ⟨rfl, rfl⟩ | rfl <;> rfl
theorem offZ_d (zs : List Int) (Z : List Nat) : (Z.map fun z => intD (zs.getD z 0)) = (offZ zs Z).map intD := by simp [offZ]
/-- The chapter's schema and rows. -/
def smS : Sch := ⟨[⟨⟨#[107]⟩, 1, false⟩, ⟨⟨#[118]⟩, 2, true⟩], -1, -1, -1, 0⟩
def vI7 : V := ⟨1, 7, ⟨#[]⟩, false⟩
def vI3 : V := ⟨1, 3, ⟨#[]⟩, false⟩
def rsS : List (List V) := [[vI7, v0], [vI3, v0], [vI7, v0]]
theorem smS_fit : fitA smS rsS = true := by decide
theorem smS_ris : RisOk 0 9 [2, 4, 6] := by
  intro j hj x hx
  match j, hj with
  | 0, _ => simp at hx; subst hx; simp
  | 1, _ => simp at hx; subst hx; simp
  | 2, _ => simp at hx; subst hx; simp
theorem smS_ord : OrdZ smS rsS [1, 0, 2] := by
  refine ⟨by decide, ?_⟩
  have h1 : rowC smS rsS 1 0 < 0 := by decide
  have h2 : rowC smS rsS 1 2 < 0 := by decide
  have h3 : rowC smS rsS 0 2 = 0 := by decide
  simp [Lx, h1, h2, h3]
def cdS : DV := .list 3 (smS.cols.map Cl.d) true
theorem run31 (H : Zb) : E X 31 [] H = some (.agg [cdS, .int .i64 (-1), .int .i64 (-1), .int .i64 (-1), .int .i64 (-1)], H) := by
  unfold cdS
  simp only [smS, List.map_cons, List.map_nil]
  have y1 : ∀ a b c d e f h, eltL [.agg [.str a, .int .i64 b, .bool c], .agg [.str d, .int .i64 e, .bool f]] h = some ([.agg [.str a, .int .i64 b, .bool c], .agg [.str d, .int .i64 e, .bool f]], h) := fun _ _ _ _ _ _ _ => rfl
  have y2 : ∀ a b c, Wc 3 (.agg [.str a, .int .i64 b, .bool c]) := fun a b c => by simp [Wc, DV.cells, DV.one]
  have y3 : ∀ a b c, Nr (.agg [.str a, .int .i64 b, .bool c]) := fun a b c => .agg (fun x hx => by
    simp only [List.mem_cons, List.mem_nil_iff, or_false] at hx
    rcases hx with rfl | rfl | rfl
    · exact .str _
    · exact .int _ _
    · exact .bool _)
  rw [ZB (X := X) _ b31 _ rfl rfl]; unfold b31; exact rg (fA3 @y1 @y2 @y3)
set_option maxHeartbeats 1000000 in
theorem run9 (H : Zb) : E X 9 [] H = some (.bool true, H) := by
  have e31 := run31
  have hCd1 : cdS.one = true := rfl
  have hCd : ∀ g, vw g 3 cdS = some (smS.cols.map Cl.d) := fun _ => rfl
  obtain ⟨ds, hds⟩ : ∃ ds, ds = rsS.map fun r => DV.list 4 (r.map V.d) true := ⟨_, rfl⟩
  obtain ⟨HB, hHB⟩ : ∃ HB, HB = H ++ [HO.box 24 [cdS, .int .i64 (-1), .int .i64 (-1), .int .i64 (-1), .int .i64 0]] := ⟨_, rfl⟩
  have hE : RowsG HB ds rsS := by
    refine ⟨by rw [hds]; simp, fun i d vs h1 h2 => ?_⟩
    rw [hds, List.getElem?_map, h2] at h1
    injection h1 with h1
    subst h1
    exact ⟨fun _ => rfl, rfl⟩
  have hok : BldOk smS 0 1 0 9 rsS [2, 4, 6] := ⟨by decide, smS_fit, rfl, smS_ris⟩
  obtain ⟨O', C', R', Z, cs, e13, hZ, hC, l1, l2, l3⟩ := run13 (H := HB) (Cd := cdS) (A := .list 1 ds true) (O := .list 1 ([2, 4, 6].map intD) true) (Of := .nils) (Cs := .nils) (s := smS) (p1 := 0) (p2 := 1) (p3 := 0) (p4 := 9) (ds := ds) (rs := rsS) (zs := [2, 4, 6]) hCd hCd1 (by decide) rfl (fun _ => rfl) hE (by decide) (fun _ => rfl) hok
  obtain rfl : Z = [1, 0, 2] := hZ.uniq smS_ord
  have hoff : offZ [2, 4, 6] [1, 0, 2] = [4, 2, 6] := rfl
  rw [offZ_d, hoff] at l2
  have hmay := built_may hok hZ hC (by decide)
  rw [hoff] at hmay
  have hcok : ∀ c ∈ cs, c.Ok := fun c hc => by
    obtain ⟨k, hk, rfl⟩ := List.mem_iff_getElem.1 hc
    exact (hC.col k _ (List.getElem?_eq_getElem hk)).ok (by rw [colV_len]; decide)
  have hcl : cs.length = 2 := hC.len
  have e26 : ∀ g, E X 26 [Yq cdS smS, .agg [.int .i64 0, .int .i64 1, .int .i64 0, .int .i64 9, O', C']] g = some (.bool true, g) := fun g => by
    obtain ⟨r, h1, h2⟩ := run26v (H := g) (Cd := cdS) (Of := O') (Cs := C') (s := smS) (p1 := 0) (p2 := 1) (p3 := 0) (p4 := 9) (zs := [4, 2, 6]) (cs := cs) hCd (by decide) (l2.numsA rfl) l3.vw hcok (by decide) (by omega) hCd1
    rw [h1, h2.2 hmay]
  obtain ⟨HC, hHC⟩ : ∃ HC, HC = HB ++ [HO.box 28 [.int .i64 0, .int .i64 1, .int .i64 0, .int .i64 9, O', C']] := ⟨_, rfl⟩
  obtain ⟨A, G, ds2, e24, hA⟩ := run24 (H := HC) (p1 := 0) (p2 := 1) (p3 := 0) (p4 := 9) l2.vw l3.vw hcok (by decide) (by omega) hmay.all (by omega)
  have hdl : ds2.length = 3 := by rw [hA.rows.1]; simp [rowsS]
  have hAv : vw (HC ++ G) 1 A = some ds2 := by have := hA.v []; rwa [List.append_nil] at this
  have e16 := fun g => run16 (h := g) (A := R') (B := .list 1 [.int .i64 1, .int .i64 0, .int .i64 2] true) (xs := [1, 0, 2]) (ys := [1, 0, 2]) (l1.vw g) rfl (by decide)
  have e16' := fun g => run16 (h := g) (A := O') (B := .list 1 [.int .i64 4, .int .i64 2, .int .i64 6] true) (xs := [4, 2, 6]) (ys := [4, 2, 6]) (l2.vw g) rfl (by decide)
  have o1 := l2.one
  have o2 := l3.one
  have o3 := l1.one
  have hfin : fin H (HC ++ G) [.bool true] = (.bool true, H) := by
    have : (HC ++ G).take H.length = H := by rw [hHC, hHB, List.append_assoc, List.append_assoc]; exact List.take_left
    simp [fin, this, fz1, fz0]
  simp only [decide_true] at e16 e16'
  have hsh : (A = .list 1 ds2 false ∧ G = []) ∨ ∃ o, A = .row o 0 0 ds2.length false := by
    rcases hA.sh with ⟨h1, h2, _⟩ | ⟨o, h1, _⟩
    · exact .inl ⟨h1, h2⟩
    · exact .inr ⟨o, h1⟩
  clear hA hmay hcok hC hZ l1 l2 l3 hE hok hcl
  subst hds
  subst hHC
  subst hHB
  simp only [Yq, Yl, smS, rsS, List.map_cons, List.map_nil, vI7, vI3, v0, V.d, List.append_assoc, List.cons_append, List.nil_append] at *
  generalize cdS = Cd at *
  have y1 : ∀ (a b a' b' : Int) c d c' d' h, eltL [.agg [.int .i64 a, .int .i64 b, .str c, .bool d], .agg [.int .i64 a', .int .i64 b', .str c', .bool d']] h = some ([.agg [.int .i64 a, .int .i64 b, .str c, .bool d], .agg [.int .i64 a', .int .i64 b', .str c', .bool d']], h) := fun _ _ _ _ _ _ _ _ _ => rfl
  have y2 : ∀ (a b : Int) c d, Wc 4 (.agg [.int .i64 a, .int .i64 b, .str c, .bool d]) := fun a b c d => by simp [Wc, DV.cells, DV.one]
  have y3 : ∀ (a b : Int) c d, Nr (.agg [.int .i64 a, .int .i64 b, .str c, .bool d]) := fun a b c d => V.nr ⟨a, b, c, d⟩
  have y4 : ∀ l1 l2 l3 h, eltL [.list 4 l1 true, .list 4 l2 true, .list 4 l3 true] h = some ([.list 4 l1 true, .list 4 l2 true, .list 4 l3 true], h) := fun _ _ _ _ => rfl
  have y5 : ∀ l, Wc 1 (.list 4 l true) := fun l => by simp [Wc, DV.cells, DV.one]
  have y6 : ∀ (a b a' b' : Int) c d c' d', Nr (.list 4 [.agg [.int .i64 a, .int .i64 b, .str c, .bool d], .agg [.int .i64 a', .int .i64 b', .str c', .bool d']] true) := fun a b a' b' c d c' d' => .list (fun x hx => by
    simp only [List.mem_cons, List.mem_nil_iff, or_false] at hx
    rcases hx with rfl | rfl
    · exact y3 _ _ _ _
    · exact y3 _ _ _ _)
  have y7 : ∀ (a b c : Int) h, eltL [.int .i64 a, .int .i64 b, .int .i64 c] h = some ([.int .i64 a, .int .i64 b, .int .i64 c], h) := fun _ _ _ _ => rfl
  have y8 : ∀ (a : Int), Wc 1 (.int .i64 a) := fun a => by simp [Wc, DV.cells, DV.one]
  have y9 : ∀ (a : Int), Nr (.int .i64 a) := fun a => .int _ _
  rcases hsh with ⟨rfl, rfl⟩ | ⟨o, rfl⟩
  · try simp only [List.append_nil] at e24 hAv hfin
    rw [ZB (X := X) _ b9 _ rfl rfl]; unfold b9
    refine rn0 (fA21 @e31 @hCd1 @y1 @y2 @y3 @y4 @y5 @y6 @y7 @y8 @y9 @e13 @o1 @o2 @o3 @e16 @e16' @e26 @e24 @hAv @hdl) ?_
    exact re @hfin
  · rw [hdl] at e24 hAv
    rw [ZB (X := X) _ b9 _ rfl rfl]; unfold b9
    refine rn0 (fA21 @e31 @hCd1 @y1 @y2 @y3 @y4 @y5 @y6 @y7 @y8 @y9 @e13 @o1 @o2 @o3 @e16 @e16' @e26 @e24 @hAv @hdl) ?_
    exact re @hfin
/-- A record: its row, as it is held, and its offset. -/
structure Rc where
  d : DV
  vs : List V
  off : Int
def Rc.r (x : Rc) : DV := .agg [x.d, .int .i64 x.off]
structure RecL (L : DV) (xs : List Rc) : Prop where
  v : ∀ g, vw g 2 L = some (xs.map Rc.r)
  row : ∀ x ∈ xs, ValL x.d x.vs
/-- A slice that grows, beside others. -/
def RowG (N T sz : Nat) (h : Zb) (d : DV) (xs : List DV) : Prop := (d = .nils ∧ xs = []) ∨ ∃ g o, d = .row o g 0 xs.length false ∧ N ≤ o ∧ h[o]? = some (.row T sz g xs)
theorem RowG.is {N T sz : Nat} {h : Zb} {d : DV} {xs : List DV} (hr : RowG N T sz h d xs) : RowIs N T sz h d xs := by
  rcases hr with h1 | ⟨g, o, h1, h2, h3⟩
  · exact .inl h1
  · exact .inr ⟨g, o, h1, h2, .inl h3⟩
def OffR (a o : DV) : Prop := ∀ q g m q' g' m', a = .row q g 0 m false → o = .row q' g' 0 m' false → q ≠ q'
theorem OffR.symm {a o : DV} (h : OffR a o) : OffR o a := fun q g m q' g' m' h1 h2 e => h q' g' m' q g m h2 h1 e.symm
theorem ValL.nr {d : DV} {vs : List V} (h : ValL d vs) : Nr d := by
  rcases h with rfl | ⟨rfl, _⟩
  · exact .list (nr_vals _)
  · exact .nils
theorem loop30 {h : Zb} {Cd d : DV} {s : Sch} {vs : List V} {b : Nat} (hC : ∀ g, vw g 3 Cd = some (s.cols.map Cl.d)) (hd : vw h 4 d = some (vs.map V.d)) (hb : h[b]? = some (.box 24 (Yl Cd s))) (hl : vs.length = s.cols.length) (hcl : s.cols.length ≤ 1000) :
    ∀ (q i : Nat), vs.length - i ≤ q → i ≤ vs.length → (fitsL (s.cols.drop i) (vs.drop i) = true ∧ ∃ ex, C X (.loop lp30_0) [(1, d), (2, .ref b 0), (6, .int .i64 i)] h = some (.exit 0, ex, h)) ∨ (fitsL (s.cols.drop i) (vs.drop i) = false ∧ C X (.loop lp30_0) [(1, d), (2, .ref b 0), (6, .int .i64 i)] h = some (.ret, [(4, .bool false)], h)) := by
  intro q
  induction q with
  | zero =>
    intro i hq hi
    obtain rfl : i = vs.length := by omega
    left
    refine ⟨by rw [List.drop_length]; cases (s.cols.drop vs.length) <;> rfl, ?_⟩
    rw [Zc]
    unfold lp30_0
    refine rn @hd ?_
    rw [Zz]
    exact ⟨_, rfl⟩
  | succ q ih =>
    intro i hq hi
    by_cases c : i < vs.length
    case neg => exact ih i (by omega) hi
    have c' : (i : Int) < (vs.length : Int) := by omega
    obtain ⟨I, hI⟩ : ∃ I, I = i + 1 := ⟨_, rfl⟩
    have z1 : IntKind.i64.wrap ((i : Int) + 1) = (I : Int) := (by rw [wrap64 _ (by omega) (by omega)]; omega)
    have c2 : i < s.cols.length := by omega
    obtain ⟨x, hx⟩ : ∃ x, x = s.cols[i] := ⟨_, rfl⟩
    have hxi : s.cols[i]? = some x := by rw [hx]; exact List.getElem?_eq_getElem c2
    have hx' := hx.symm
    obtain ⟨v, hv⟩ : ∃ v, v = vs[i] := ⟨_, rfl⟩
    have hvi : vs[i]? = some v := by rw [hv]; exact List.getElem?_eq_getElem c
    have hv' := hv.symm
    have hd1 : s.cols.drop i = x :: s.cols.drop I := by rw [List.drop_eq_getElem_cons c2, ← hx, hI]
    have hd2 : vs.drop i = v :: vs.drop I := by rw [List.drop_eq_getElem_cons c, ← hv, hI]
    rw [hd1, hd2, fitsL]
    have e52 := run52 v
    have bad : C X lp30_0 [(1, d), (2, .ref b 0), (6, .int .i64 i)] h = some (.ret, [(4, .bool false)], h) → fitV x v = false → ((fitV x v && fitsL (s.cols.drop I) (vs.drop I)) = true ∧ ∃ ex, C X (.loop lp30_0) [(1, d), (2, .ref b 0), (6, .int .i64 i)] h = some (.exit 0, ex, h)) ∨ ((fitV x v && fitsL (s.cols.drop I) (vs.drop I)) = false ∧ C X (.loop lp30_0) [(1, d), (2, .ref b 0), (6, .int .i64 i)] h = some (.ret, [(4, .bool false)], h)) := fun hs hf => .inr ⟨by rw [hf]; rfl, by rw [Zc, hs, lp_ret]⟩
    have good : C X lp30_0 [(1, d), (2, .ref b 0), (6, .int .i64 i)] h = some (.norm, [(1, d), (2, .ref b 0), (6, .int .i64 I)], h) → fitV x v = true → ((fitV x v && fitsL (s.cols.drop I) (vs.drop I)) = true ∧ ∃ ex, C X (.loop lp30_0) [(1, d), (2, .ref b 0), (6, .int .i64 i)] h = some (.exit 0, ex, h)) ∨ ((fitV x v && fitsL (s.cols.drop I) (vs.drop I)) = false ∧ C X (.loop lp30_0) [(1, d), (2, .ref b 0), (6, .int .i64 i)] h = some (.ret, [(4, .bool false)], h)) := fun hs hf => by
      rw [hf, Bool.true_and, Zc, hs, ZI]
      exact ih I (by omega) (by omega)
    clear ih hx hv hd1 hd2
    obtain ⟨cols, k1, k2, k3, k4⟩ := s
    obtain ⟨nm, kd, nl⟩ := x
    obtain ⟨vk, vn, vs', vt⟩ := v
    simp only [Yl, Cl.d] at *
    cases hm : mayV ⟨vk, vn, vs', vt⟩
    · refine bad ?_ (by unfold fitV; rw [hm]; simp)
      rw [hm] at e52
      clear bad good hm
      simp only [V.d] at *
      unfold lp30_0
      by_cases n0 : vk = 0
      · subst n0
        refine rn0 (fA13 @c @c' @z1 @hC @hd @hb @hxi @hx' @hvi @hv' @c2 @hl @e52) ?_
        simp [Za, lk]
      · have n0' : (vk == 0) = false := by simpa using n0
        refine rn0 (fA14 @c @c' @z1 @hC @hd @hb @hxi @hx' @hvi @hv' @c2 @hl @e52 @n0') ?_
        simp [Za, lk]
    rw [hm] at e52
    by_cases n1 : vk = kd
    · refine good ?_ (by unfold fitV; rw [hm]; simp [n1])
      clear bad good hm
      simp only [V.d] at *
      unfold lp30_0
      have n1' : (vk != kd) = false := by simpa using n1
      by_cases n0 : vk = 0
      · subst n0
        refine rn0 (fA14 @c @c' @z1 @hC @hd @hb @hxi @hx' @hvi @hv' @c2 @hl @e52 @n1') ?_
        simp [Za, lk]
      · have n0' : (vk == 0) = false := by simpa using n0
        refine rn0 (fA15 @c @c' @z1 @hC @hd @hb @hxi @hx' @hvi @hv' @c2 @hl @e52 @n0' @n1') ?_
        simp [Za, lk]
    have n1' : (vk != kd) = true := by simpa using n1
    by_cases n0 : vk = 0
    · subst n0
      cases nl
      · refine bad ?_ (by unfold fitV; rw [hm]; simp [n1])
        clear bad good hm
        simp only [V.d] at *
        unfold lp30_0
        refine rn0 (fA14 @c @c' @z1 @hC @hd @hb @hxi @hx' @hvi @hv' @c2 @hl @e52 @n1') ?_
        simp [Za, lk]
      · refine good ?_ (by unfold fitV; rw [hm]; simp [n1])
        clear bad good hm
        simp only [V.d] at *
        unfold lp30_0
        refine rn0 (fA14 @c @c' @z1 @hC @hd @hb @hxi @hx' @hvi @hv' @c2 @hl @e52 @n1') ?_
        simp [Za, lk]
    · have n0' : (vk == 0) = false := by simpa using n0
      refine bad ?_ (by unfold fitV; rw [hm]; simp [n1, n0])
      clear bad good hm
      simp only [V.d] at *
      unfold lp30_0
      refine rn0 (fA15 @c @c' @z1 @hC @hd @hb @hxi @hx' @hvi @hv' @c2 @hl @e52 @n0' @n1') ?_
      simp [Za, lk]
theorem run30 {H : Zb} {Cd d : DV} {s : Sch} {vs : List V} (hC : ∀ g, vw g 3 Cd = some (s.cols.map Cl.d)) (hd : ∀ G, vw (H ++ G) 4 d = some (vs.map V.d)) (hl : s.cols.length ≤ 1000) : E X 30 [Yq Cd s, d] H = some (.bool (fitsV s vs), H) := by
  have e50 := fun g => run50 hC hl g
  have hd0 := hd [.box 24 (Yl Cd s)]
  unfold fitsV
  cases hm : smayV s
  · rw [hm] at e50
    obtain ⟨cols, k1, k2, k3, k4⟩ := s
    simp only [Yq, Yl] at *
    rw [ZB (X := X) _ b30 _ rfl rfl]; unfold b30; exact rg0 @e50
  rw [hm] at e50
  by_cases c1 : vs.length = s.cols.length
  case neg =>
    rw [decide_eq_false c1]
    have c1' : ((vs.length : Int) != (s.cols.length : Int)) = true := by simp only [bne_iff_ne, ne_eq]; omega
    clear hm hd
    obtain ⟨cols, k1, k2, k3, k4⟩ := s
    simp only [Yq, Yl] at *
    rw [ZB (X := X) _ b30 _ rfl rfl]; unfold b30; exact rg0 (fA5 @e50 @hC @hd0 @c1 @c1')
  rw [decide_eq_true c1, Bool.true_and, Bool.true_and]
  have c1' : ((vs.length : Int) != (s.cols.length : Int)) = false := by rw [c1]; simp
  rcases loop30 (b := H.length) hC hd0 (by simp) c1 hl vs.length 0 (by omega) (by omega) with ⟨hf, ex, hc⟩ | ⟨hf, hc⟩
  all_goals
    rw [List.drop_zero, List.drop_zero] at hf
    rw [hf]
    rw [show ((0 : Nat) : Int) = 0 from rfl] at hc
    clear hm hd hf
    obtain ⟨cols, k1, k2, k3, k4⟩ := s
    simp only [Yq, Yl] at *
    rw [ZB (X := X) _ b30 _ rfl rfl]; unfold b30
    refine rn0 (fA5 @e50 @hC @hd0 @c1 @c1') ?_
    refine keG ?_
    rw [hc]
    refine rn trivial ?_
    simp [Zn, ZR, ZY, go_sem, fin, fz0, fz1, fzT, fzL, nlt, hd0]
theorem loop21 {Hb : Zb} {Cs : DV} {cs : List RC} {n i : Nat} (hC : ∀ g, vw g 3 Cs = some (cs.map RC.d)) (hm : ∀ c ∈ cs, c.May n) (hcl : cs.length ≤ 12) (hi : i < n) :
    ∀ (q k : Nat) (h : Zb) (o : DV), cs.length - k ≤ q → k ≤ cs.length → Gro 56 4 Hb h o ((rowS ((cs.take k).map RC.sc) i).map V.d) → ∃ ex h' o', C X (.loop lp21_0) [(1, .int .i64 i), (5, o), (20, Cs), (21, .int .i64 cs.length), (22, .int .i64 k)] h = some (.exit 0, (1, .int .i64 i) :: (5, o') :: ex, h') ∧ Gro 56 4 Hb h' o' ((rowS (cs.map RC.sc) i).map V.d) := by
  intro q
  induction q with
  | zero =>
    intro k h o hq hk hg
    obtain rfl : k = cs.length := by omega
    rw [List.take_length] at hg
    refine ⟨[(20, Cs), (21, .int .i64 cs.length), (22, .int .i64 cs.length), (23, .bool false)], h, o, ?_, hg⟩
    rw [Zc]
    unfold lp21_0
    refine rn trivial ?_
    rw [Zz]
    simp [Za, lk]
  | succ q ih =>
    intro k h o hq hk hg
    by_cases c : k < cs.length
    · obtain ⟨K, hK⟩ : ∃ K, K = k + 1 := ⟨_, rfl⟩
      have z1 : IntKind.i64.wrap ((k : Int) + 1) = (K : Int) := (by rw [wrap64 _ (by omega) (by omega)]; omega)
      obtain ⟨x, hx⟩ : ∃ x, x = cs[k] := ⟨_, rfl⟩
      have hxm := hm x (by rw [hx]; exact List.getElem_mem c)
      have hge : cs[k].d = .agg [.int .i64 x.n, x.D, x.B] := by rw [← hx]; rfl
      obtain ⟨p, hp, _, hv, _⟩ := hxm.scOk.get hi
      obtain ⟨v, hvv⟩ : ∃ v, v = x.sc.val i := ⟨_, rfl⟩
      rw [← hvv] at hv
      have e44 : ∀ g, E X 44 [.agg [.int .i64 x.n, x.D, x.B], .int .i64 i] g = some (.tup [v.d, .bool true], g) := fun g => by
        have := run44 hxm.col hp hv g
        rw [hxm.len]
        exact this
      have hD1 := hxm.ok.dict.one
      have hB1 := hxm.ok.bytes.one'
      have e : (rowS ((cs.take K).map RC.sc) i).map V.d = (rowS ((cs.take k).map RC.sc) i).map V.d ++ [v.d] := by
        rw [hK, ← List.take_append_getElem c, ← hx, hvv]
        simp [rowS]
      have hln : ((rowS ((cs.take k).map RC.sc) i).map V.d).length ≤ 12 := by simp [rowS]; omega
      obtain ⟨G2, hG2⟩ : ∃ G2 : Zb, G2 = [.box 70 [.int .i64 x.n, x.D, x.B], .box 56 [.int .i64 v.k, .int .i64 v.n, .str v.s, .bool v.t]] := ⟨_, rfl⟩
      obtain ⟨o2, h2, ha, hg2⟩ := (hg.ext G2).app 40 [v.d] (by simp only [List.length_cons, List.length_nil]; omega)
      rw [← e] at hg2
      have hIH := ih K h2 o2 (by omega) (by omega) hg2
      have hw := (hg.ext G2).vw
      have y1 : ∀ h, eltL [v.d] h = some ([v.d], h) := fun _ => rfl
      have y2 : Wc 4 v.d := by simp [Wc, DV.cells, V.d, DV.one]
      have y3 : Nr v.d := v.nr
      have y4 : ∀ h, srcOf h 4 (.list 4 [v.d] true) = some [v.d] := fun _ => rfl
      have hs : C X lp21_0 [(1, .int .i64 i), (5, o), (20, Cs), (21, .int .i64 cs.length), (22, .int .i64 k)] h = some (.norm, [(1, .int .i64 i), (5, o2), (20, Cs), (21, .int .i64 cs.length), (22, .int .i64 K)], h2) := by
        clear ih hIH hg hg2 e hln hvv hv hp hxm
        generalize (rowS ((cs.take k).map RC.sc) i).map V.d = cur at *
        subst hG2
        obtain ⟨vk, vn, vs', vt⟩ := v
        simp only [V.d] at *
        unfold lp21_0
        refine rn0 (fA13 @c @z1 @hC @hge @hD1 @hB1 @e44 @y1 @y2 @y3 @y4 @hw @ha) ?_
        simp [Za, lk]
      rw [Zc, hs, ZI]
      exact hIH
    · exact ih k h o (by omega) hk hg
theorem run21 {H : Zb} {Of Cs : DV} {p1 p2 p3 p4 : Int} {os : List DV} {cs : List RC} (hO : ∀ g, vw g 1 Of = some os) (hC : ∀ g, vw g 3 Cs = some (cs.map RC.d)) (hm : ∀ c ∈ cs, c.May os.length) (hcl : cs.length ≤ 12) {i : Nat} (hi : i < os.length) :
    ∃ R, E X 21 [.agg [.int .i64 p1, .int .i64 p2, .int .i64 p3, .int .i64 p4, Of, Cs], .int .i64 i] H = some (R, H) ∧ ValD R (rowS (cs.map RC.sc) i) := by
  obtain ⟨H1, hH1⟩ : ∃ H1, H1 = H ++ [HO.box 28 [.int .i64 p1, .int .i64 p2, .int .i64 p3, .int .i64 p4, Of, Cs]] := ⟨_, rfl⟩
  have ht1 : H1.take H.length = H := by rw [hH1]; exact List.take_left
  obtain ⟨ex, h', o', hc, hg⟩ := loop21 (Hb := H1) (Cs := Cs) (cs := cs) (n := os.length) (i := i) hC hm hcl hi cs.length 0 H1 .nils (by omega) (by omega) Gro.zero
  rw [show ((0 : Nat) : Int) = 0 from rfl] at hc
  obtain ⟨R, hf, hR⟩ := (hg.base ht1).valD
  refine ⟨R, ?_, hR⟩
  have c0 : ¬ (i : Int) < 0 := by omega
  have c1 : ¬ (os.length : Int) ≤ (i : Int) := by omega
  have c2 : ¬ os.length ≤ i := by omega
  have hcl' : (cs.map RC.d).length = cs.length := List.length_map _
  clear hg hR ht1 hm
  subst hH1
  rw [ZB (X := X) _ b21 _ rfl rfl]; unfold b21
  refine rn0 (fA6 @hO @hC @hcl' @c0 @c1 @c2) ?_
  refine keG ?_
  rw [hc]
  refine rn trivial ?_
  simp only [Zn, ZY, lk, Za, List.map_cons, List.map_nil, reduceIte, Option.map_some, Nat.reduceEqDiff, hf]
theorem run21o {H : Zb} {Of Cs : DV} {p1 p2 p3 p4 : Int} {os : List DV} (hO : ∀ g, vw g 1 Of = some os) {z : Int} (hz : z < 0 ∨ (os.length : Int) ≤ z) :
    E X 21 [.agg [.int .i64 p1, .int .i64 p2, .int .i64 p3, .int .i64 p4, Of, Cs], .int .i64 z] H = some (.nils, H) := by
  by_cases c : z < 0
  · rw [ZB (X := X) _ b21 _ rfl rfl]; unfold b21; exact rg0 (fA2 @hO @c)
  · have c1 : (os.length : Int) ≤ z := by omega
    rw [ZB (X := X) _ b21 _ rfl rfl]; unfold b21; exact rg0 (fA3 @hO @c @c1)
set_option maxHeartbeats 1000000 in
theorem loop8 {Hb : Zb} {Cd Of Cs A : DV} {s : Sch} {p1 p2 p3 p4 : Int} {n : Nat} {os : List DV} {cs : List RC} {ds : List DV} (hS : ∀ g, vw g 3 Cd = some (s.cols.map Cl.d)) (hsl : s.cols.length ≤ 1000) (hO : ∀ g, vw g 1 Of = some os) (hol : os.length = n) (hC : ∀ g, vw g 3 Cs = some (cs.map RC.d)) (hm : ∀ c ∈ cs, c.May n) (hcl : cs.length ≤ 12) (hn : n ≤ 200) (hA : ∀ G, vw (Hb ++ G) 1 A = some ds) (hE : RowsG Hb ds (rowsS (cs.map RC.sc) n)) (hf : ∀ r ∈ rowsS (cs.map RC.sc) n, fitsV s r = true) (hb0 : Hb[0]? = some (.box 24 (Yl Cd s))) (hb1 : Hb[1]? = some (.box 28 [.int .i64 p1, .int .i64 p2, .int .i64 p3, .int .i64 p4, Of, Cs])) :
    ∀ (q i : Nat) (G : Zb), n - i ≤ q → i ≤ n → ∃ ex G', C X (.loop lp8_0) [(2, .ref 0 0), (3, .ref 1 0), (8, A), (9, .int .i64 i)] (Hb ++ G) = some (.exit 0, (2, .ref 0 0) :: (3, .ref 1 0) :: (8, A) :: ex, Hb ++ G') := by
  have hrl : (rowsS (cs.map RC.sc) n).length = n := by simp [rowsS]
  have hdl : ds.length = n := by rw [hE.1, hrl]
  intro q
  induction q with
  | zero =>
    intro i G hq hi
    obtain rfl : i = n := by omega
    have hA0 := hA G
    refine ⟨[(9, .int .i64 i), (45, .bool false)], G, ?_⟩
    rw [Zc]
    unfold lp8_0
    refine rn (fA2 @hA0 @hdl) ?_
    rw [Zz]
    simp [Za, lk]
  | succ q ih =>
    intro i G hq hi
    by_cases c : i < n
    case neg => exact ih i G (by omega) hi
    have c' : (i : Int) < (n : Int) := by omega
    obtain ⟨I, hI⟩ : ∃ I, I = i + 1 := ⟨_, rfl⟩
    have z1 : IntKind.i64.wrap ((i : Int) + 1) = (I : Int) := (by rw [wrap64 _ (by omega) (by omega)]; omega)
    have hr := rowsS_get (cs.map RC.sc) c
    obtain ⟨r, hrr⟩ : ∃ r, r = rowS (cs.map RC.sc) i := ⟨_, rfl⟩
    rw [← hrr] at hr
    have hrl12 : r.length ≤ 12 := by rw [hrr]; simp [rowS]; exact hcl
    have ze : i < ds.length := by omega
    obtain ⟨e, he⟩ : ∃ e, ds[i]? = some e := ⟨ds[i], List.getElem?_eq_getElem ze⟩
    have he' : ds[i] = e := by rw [List.getElem?_eq_getElem ze] at he; injection he
    obtain ⟨e1, e2⟩ := hE.2 i e r he hr
    have hA0 := hA G
    have e30 := run30 (H := Hb ++ G) (d := e) (vs := r) hS (fun L => by rw [List.append_assoc]; exact e1 _) hsl
    rw [hf r (List.mem_of_getElem? hr)] at e30
    obtain ⟨R, e21, hR⟩ := run21 (H := Hb ++ G) (p1 := p1) (p2 := p2) (p3 := p3) (p4 := p4) hO hC (by rw [hol]; exact hm) hcl (i := i) (by omega)
    rw [← hrr] at hR
    have ec := cells1 e2
    unfold DV.cells at ec
    have hb0' : (Hb ++ G)[0]? = some (.box 24 (Yl Cd s)) := by rw [List.getElem?_append_left (List.getElem?_eq_some_iff.1 hb0).1]; exact hb0
    have hb1' : (Hb ++ G)[1]? = some (.box 28 [.int .i64 p1, .int .i64 p2, .int .i64 p3, .int .i64 p4, Of, Cs]) := by rw [List.getElem?_append_left (List.getElem?_eq_some_iff.1 hb1).1]; exact hb1
    obtain ⟨h, hh⟩ : ∃ h, h = Hb ++ G := ⟨_, rfl⟩
    have step : ∀ (G2 : Zb), C X lp8_0 [(2, .ref 0 0), (3, .ref 1 0), (8, A), (9, .int .i64 i)] h = some (.norm, [(2, .ref 0 0), (3, .ref 1 0), (8, A), (9, .int .i64 I)], h ++ G2) → ∃ ex G', C X (.loop lp8_0) [(2, .ref 0 0), (3, .ref 1 0), (8, A), (9, .int .i64 i)] (Hb ++ G) = some (.exit 0, (2, .ref 0 0) :: (3, .ref 1 0) :: (8, A) :: ex, Hb ++ G') := fun G2 hs => by
      rw [hh] at hs
      rw [Zc, hs, ZI, List.append_assoc]
      exact ih I (G ++ G2) (by omega) (by omega)
    have e1' : ∀ L, vw (h ++ L) 4 e = some (r.map V.d) := fun L => by rw [hh, List.append_assoc]; exact e1 _
    rw [← hh] at e30 e21 hA0 hb0' hb1'
    clear ih hE hA hb0 hb1 hm hf e1 hh hr hrr
    rcases hR with ⟨rfl, rfl⟩ | rfl
    · have e20 := run20x (h := h) (A := .nils) (B := e) (xs := []) rfl (by have := e1' []; rwa [List.append_nil] at this) (by simp)
      refine step [] ?_
      rw [List.append_nil]
      obtain ⟨cols, k1, k2, k3, k4⟩ := s
      simp only [Yq, Yl] at *
      unfold lp8_0
      refine rn0 (fA15 @c @c' @z1 @hA0 @hdl @ze @he @he' @e2 @ec @hb0' @hb1' @e30 @e21 @e20) ?_
      simp [Za, lk]
    · have e20 := run20x (h := h ++ [.row 56 4 0 (r.map V.d)]) (A := .row h.length 0 0 (r.map V.d).length false) (B := e) (xs := r) (by simp [vw, List.take_of_length_le]) (e1' _) (by omega)
      refine step [.row 56 4 0 (r.map V.d)] ?_
      have hcur : (r.map V.d).length ≤ 12 := by simp; exact hrl12
      have hbx0 : (h ++ [.row 56 4 0 (r.map V.d)])[0]? = some (.box 24 (Yl Cd s)) := by rw [List.getElem?_append_left (List.getElem?_eq_some_iff.1 hb0').1]; exact hb0'
      have hbx1 : (h ++ [.row 56 4 0 (r.map V.d)])[1]? = some (.box 28 [.int .i64 p1, .int .i64 p2, .int .i64 p3, .int .i64 p4, Of, Cs]) := by rw [List.getElem?_append_left (List.getElem?_eq_some_iff.1 hb1').1]; exact hb1'
      have hAx : vw (h ++ [.row 56 4 0 (r.map V.d)]) 1 A = some ds := vw_grow hA0
      clear e1'
      generalize r.map V.d = cur at *
      obtain ⟨cols, k1, k2, k3, k4⟩ := s
      simp only [Yq, Yl] at *
      unfold lp8_0
      refine rn0 (fA18 @c @c' @z1 @hA0 @hAx @hdl @ze @he @he' @e2 @ec @hb0' @hb1' @hbx0 @hbx1 @e30 @e21 @e20) ?_
      simp [Za, lk]
set_option maxHeartbeats 2000000 in
theorem run8 {Cd Of Cs : DV} {s : Sch} {p1 p2 p3 p4 : Int} {zs : List Int} {cs : List RC} (hS : ∀ g, vw g 3 Cd = some (s.cols.map Cl.d)) (hCd1 : Cd.one = true) (hG : SegN Of Cs zs cs) (hO1 : Of.one = true) (hC1 : Cs.one = true) : ∃ h', E X 8 [Yq Cd s, .agg [.int .i64 p1, .int .i64 p2, .int .i64 p3, .int .i64 p4, Of, Cs]] [] = some (.bool true, h') := by
  obtain ⟨HL, hHL⟩ : ∃ HL : Zb, HL = [.box 24 [Cd, .int .i64 s.key, .int .i64 s.cmp, .int .i64 s.del, .int .i64 s.sort], .box 28 [.int .i64 p1, .int .i64 p2, .int .i64 p3, .int .i64 p4, Of, Cs]] := ⟨_, rfl⟩
  have hzl : (zs.map intD).length = zs.length := List.length_map _
  have e9 := run9
  obtain ⟨b19, e19, hb19⟩ := run19 (H := HL) (p1 := p1) (p2 := p2) (p3 := p3) (p4 := p4) (os := zs.map intD) ⟨hG.o.vw, hG.c, hG.raw⟩
  obtain ⟨b10, e10, hb10⟩ := run10 hS HL
  have hfin : ∀ h' : Zb, fin [] h' [.bool true] = (.bool true, []) := fun h' => by simp [fin, fz1, fz0]
  have early : ∀ (hk : b10 = false ∨ (b10 = true ∧ b19 = false)), ∃ h', E X 8 [Yq Cd s, .agg [.int .i64 p1, .int .i64 p2, .int .i64 p3, .int .i64 p4, Of, Cs]] [] = some (.bool true, h') := by
    intro hk
    refine ⟨[], ?_⟩
    clear hb19 hb10
    subst hHL
    obtain ⟨cols, k1, k2, k3, k4⟩ := s
    simp only [Yq, Yl] at *
    rcases hk with rfl | ⟨rfl, rfl⟩
    · rw [ZB (X := X) _ b8 _ rfl rfl]; unfold b8; exact rg0 (fA3 @e9 @e10 @e19)
    · rw [ZB (X := X) _ b8 _ rfl rfl]; unfold b8; exact rg0 (fA3 @e9 @e10 @e19)
  cases b10
  · exact early (.inl rfl)
  cases b19
  · exact early (.inr ⟨rfl, rfl⟩)
  clear early
  obtain ⟨hn, hcl, hok⟩ := hb19 rfl
  have hsl := hb10 rfl
  rw [hzl] at hn
  obtain ⟨r, e26, hr⟩ := run26v (H := HL) (p1 := p1) (p2 := p2) (p3 := p3) (p4 := p4) hS (by omega) hG.o hG.c hok hn hcl hCd1
  cases r
  · refine ⟨[], ?_⟩
    clear hr hb19 hb10
    subst hHL
    obtain ⟨cols, k1, k2, k3, k4⟩ := s
    simp only [Yq, Yl] at *
    rw [ZB (X := X) _ b8 _ rfl rfl]; unfold b8; exact rg0 (fA4 @e9 @e10 @e19 @e26)
  have hM := hr.1 rfl
  have hall' : ∀ c ∈ cs, c.n = ((zs.map intD).length : Int) ∧ okC c.n c.ys c.bs := by rw [hzl]; exact hM.all
  have hm : ∀ c ∈ cs, c.May zs.length := fun c hc => ⟨hok c hc, (hM.all c hc).2, (hM.all c hc).1⟩
  have hff := fitA_fits hM.fit
  have hpos : 0 < cs.length := by have := (smayV_sort hff.1).2.2.1; have := hM.cols; omega
  obtain ⟨A, G, ds, e24, hO⟩ := run24 (H := HL) (p1 := p1) (p2 := p2) (p3 := p3) (p4 := p4) hG.o.vw hG.c hok (by rw [hzl]; exact hn) hcl hall' hpos
  rw [hzl] at hO
  have hrl : (rowsS (cs.map RC.sc) zs.length).length = zs.length := by simp [rowsS]
  have hb0 : (HL ++ G)[0]? = some (.box 24 (Yl Cd s)) := by rw [hHL]; rfl
  have hb1 : (HL ++ G)[1]? = some (.box 28 [.int .i64 p1, .int .i64 p2, .int .i64 p3, .int .i64 p4, Of, Cs]) := by rw [hHL]; rfl
  obtain ⟨ex, G', hc⟩ := loop8 (Hb := HL ++ G) (A := A) (s := s) (p1 := p1) (p2 := p2) (p3 := p3) (p4 := p4) (n := zs.length) (os := zs.map intD) hS (by omega) hG.o.vw hzl hG.c hm hcl hn hO.v hO.rows hff.2 hb0 hb1 zs.length 0 [] (by omega) (by omega)
  rw [show ((0 : Nat) : Int) = 0 from rfl, List.append_nil] at hc
  have hAv : ∀ L, vw ((HL ++ G) ++ L) 1 A = some ds := hO.v
  have hdl : ds.length = zs.length := by rw [hO.rows.1, hrl]
  have hb1' : ((HL ++ G) ++ G')[1]? = some (.box 28 [.int .i64 p1, .int .i64 p2, .int .i64 p3, .int .i64 p4, Of, Cs]) := by rw [List.getElem?_append_left (List.getElem?_eq_some_iff.1 hb1).1]; exact hb1
  have e21a : ∀ H, E X 21 [.agg [.int .i64 p1, .int .i64 p2, .int .i64 p3, .int .i64 p4, Of, Cs], .int .i64 (-1)] H = some (.nils, H) := fun H => run21o hG.o.vw (.inl (by omega))
  have e21b : ∀ H, E X 21 [.agg [.int .i64 p1, .int .i64 p2, .int .i64 p3, .int .i64 p4, Of, Cs], .int .i64 zs.length] H = some (.nils, H) := fun H => run21o hG.o.vw (.inr (by rw [hzl]; exact Int.le_refl _))
  have hOv := hG.o.vw
  have hAs : (∃ l, A = .list 1 l false) ∨ ∃ o n, A = .row o 0 0 n false := by
    rcases hO.sh with ⟨h, _⟩ | ⟨o, h, _⟩
    · exact .inl ⟨_, h⟩
    · exact .inr ⟨_, _, h⟩
  have hA0 := hAv []
  rw [List.append_nil] at hA0
  have hA1 := hAv G'
  have n0 : ((zs.length : Int) != (zs.length : Int)) = false := by simp
  have vn : ∀ (h : Zb), vw h 4 .nils = some [] := fun _ => rfl
  refine ⟨[], ?_⟩
  obtain ⟨HX, hHX⟩ : ∃ HX, HX = HL ++ G := ⟨_, rfl⟩
  rw [← hHX] at e24 hc hA0 hA1 hb0 hb1 hb1'
  obtain ⟨HY, hHY⟩ : ∃ HY, HY = HX ++ G' := ⟨_, rfl⟩
  rw [← hHY] at hc hA1 hb1'
  clear hr hb19 hb10 hO hm hall' hff hM hrl hok hHX hHY hAv
  subst hHL
  obtain ⟨cols, k1, k2, k3, k4⟩ := s
  simp only [Yq, Yl] at *
  rcases hAs with ⟨l, rfl⟩ | ⟨o, n, rfl⟩
  all_goals
    rw [ZB (X := X) _ b8 _ rfl rfl]; unfold b8
    refine rn0 (fA12 @e9 @e10 @e19 @e26 @e24 @hA0 @hb0 @hb1 @hOv @hdl @hzl @n0) ?_
    refine keG ?_
    rw [hc]
    refine rn0 (fA6 @hA1 @hb1' @hdl @e21a @e21b @vn) ?_
    simp [Zn, ZR, ZY, go_sem, fin, fz0, fz1, fzT, fzL, nlt, hfin]
/-- Columns of the same contents. -/
structure TwinC (n : Nat) (az bs : List RC) : Prop where
  la : az.length = n
  lb : bs.length = n
  oa : ∀ c ∈ az, c.Ok
  ob : ∀ c ∈ bs, c.Ok
  eq : ∀ (k : Nat) (c d : RC), az[k]? = some c → bs[k]? = some d → c.n = d.n ∧ c.ys = d.ys ∧ c.bs = d.bs
end Go.Proofs.YtmbgfbomgbdjeaaGreatDoor
