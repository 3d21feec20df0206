/- Ideal runs: the chapter's example comes out as it says. -/
import Derived.Test.YtmlfhjpajbmajaaPlainJ
namespace Go.Proofs.Ytmlfhjpajbmajaa
set_option linter.unusedVariables false
set_option linter.unusedSimpArgs false
set_option maxRecDepth 10000
def v7 : V := ⟨1, 7, ⟨#[]⟩, false⟩
def v3 : V := ⟨1, 3, ⟨#[]⟩, false⟩
theorem sort73 : Go.Sort.sort lt [v7, v3].toArray = [v3, v7].toArray := by
  have h : ∀ d : Array V, d.size = 2 → Go.Sort.sort lt d = Go.Sort.insInner lt 0 1 d := by
    intro d hd
    rw [Go.Sort.sort, Go.Sort.pdq, hd, if_pos (by omega), Go.Sort.insertionSort, Go.Sort.insOuter, if_pos (by omega), Go.Sort.insOuter, if_neg (by omega)]
  rw [h _ rfl, Go.Sort.insInner]
  rw [if_pos (by simp [lt, ord, cmpI, v7, v3]), Go.Sort.insInner]
  simp [Go.Sort.swp]
theorem place73 : toS [v3, v7] [v7, v3] = [.int .i64 1, .int .i64 0] := by
  have h1 : place [v3, v7] v7 = 1 := by
    simp only [place]
    rw [bs, dif_pos (by simp), if_pos (by simp [ord, cmpI, v7, v3]), bs, dif_pos (by simp), if_neg (by simp [ord, cmpI, v7, v3]), bs, dif_neg (by simp)]
    simp
  have h2 : place [v3, v7] v3 = 0 := by
    simp only [place]
    rw [bs, dif_pos (by simp), if_pos (by simp [ord, cmpI, v7, v3]), bs, dif_pos (by simp), if_pos (by simp [ord, cmpI, v7, v3]), bs, dif_neg (by simp)]
  simp [toS, h1, h2]
theorem take_eq_of {h H : Heap} (hl : h.length ≤ H.length) (hx : ∀ i < h.length, H[i]? = h[i]?) : H.take h.length = h := by
  apply List.ext_getElem?
  intro i
  by_cases hi : i < h.length
  · rw [List.getElem?_take_of_lt hi, hx i hi]
  · rw [List.getElem?_eq_none (by simp; omega), List.getElem?_eq_none (by omega)]
def limOf (n : Int) : Int := if n < 0 then 0 else if n > 4096 then 4096 else n
theorem run11' (n : Int) (h : Heap) : E X 11 [.int .i64 n] h = some (.ref (h.length + 1) 0, h ++ [.map 0 0 [], .box 55 [.int .i64 (limOf n), .nils, .map h.length]]) := by
  have e := run11 n h
  rw [e]
  unfold limOf
  by_cases h1 : n < 0
  · simp [h1]
  · simp [h1]
theorem run9 (h : Heap) : E X 9 [] h = some (.bool true, h) := by
  have e1 := run11' 9 h
  rw [show limOf 9 = 9 from rfl] at e1
  have D1 : DictAt (h ++ [.map 0 0 [], .box 55 [.int .i64 9, .nils, .map h.length]]) (h.length + 1) h.length .nils 9 [] := ⟨by simp [hget], by simp [ents], .inl ⟨rfl, rfl⟩⟩
  have l1 : (h ++ [HO.map 0 0 [], .box 55 [.int .i64 9, .nils, .map h.length]]).length = h.length + 2 := by simp
  have f1 : ∀ i < h.length, (h ++ [HO.map 0 0 [], .box 55 [.int .i64 9, .nils, .map h.length]])[i]? = h[i]? := fun i hi => List.getElem?_append_left hi
  generalize h ++ [HO.map 0 0 [], .box 55 [.int .i64 9, .nils, .map h.length]] = H1 at e1 D1 l1 f1
  obtain ⟨L2, H2, e2, D2, l2, f2, r2⟩ := run12_add D1 v7 (by rfl) (by rfl) (by simp) (by omega)
  obtain ⟨L3, H3, e3, D3, l3, f3, r3⟩ := run12_add D2 v3 (by rfl) (by rfl) (by simp) (by omega)
  have e4 := run12_is D3 v7 (j := 0) (by rfl) (by rfl)
  have e5 := run18 D3 (by simp) (sorts_small _ (by simp)) (by simp) (ys := [v3, v7]) sort73 rfl
  rw [show ([] ++ [v7]) ++ [v3] = [v7, v3] from rfl, place73] at e5
  have e6 : ∀ h, E X 21 [.list 1 [.int .i64 1, .int .i64 0] false, .list 1 [.int .i64 1, .int .i64 0] true] h = some (.bool true, h) := fun h => run21 (xs := [1, 0]) (ys := [1, 0]) rfl rfl (by simp)
  have fx : H3.take h.length = h := by
    refine take_eq_of (by omega) fun i hi => ?_
    have hr2 : rowOf L2 ≠ some i := by
      rcases r2 with h | ⟨r, h, h'⟩
      · rw [h]; simp [rowOf]
      · rw [h]; intro h; injection h with h; omega
    rw [f3 i (by omega) (by omega) (by omega) hr2, f2 i (by omega) (by omega) (by omega) (by simp [rowOf]), f1 i hi]
  unfold v7 at e2 e4 e5
  unfold v3 at e3 e5
  rw [E_go (X := X) _ b9 _ rfl rfl]; unfold b9
  (repeat (first | rw [s_assoc] | rw [s_seq_reg (by simp [evOps, evOp_n, evOp_r, evOp_d, evOp_dr, kpo_refl, kpo_app, cnd_some, cnd_pair, cnd_cnd_t, cnd_cnd_f, cnd_same, cnd_dvb, cnd_and, cnd_or, ↓evx_pick, gd_bool, gd_boolf, gd_tup, cnd_t, cnd_f, evTo, isCall, evx, put, lk, Od.v, keepEnv, enterEnv, ldx_ref, rdc, binx, binI, binS, unx, eqk, DV.isU, DV.cells, hget, hget0, hset, hset0, stx_ref, splice, DV.one, fillp, mat, eqcs, eqs, e1, e2, e3, e4, e5, e6, eltL, eltOf, roOf, Wc, Nr.int, vw, ldx]; exact ⟨rfl, rfl⟩)] | rw [s_cnd (by simp [lk, keepEnv, Od.v, e1, e2, e3, e4, e5, e6, eltL, eltOf, roOf, Wc, Nr.int, vw, ldx]; exact rfl)] | rw [cnd_t] | rw [cnd_f] | rw [s_skip] | rw [s_ret] | rw [s_exit] | rw [C_ret] | rw [C_exit] | rw [C_skip] | rw [blk_ret] | rw [blk_norm] | rw [blk_exit] | rw [blk_exit' (by decide)] | rw [blkT_ret] | rw [blkT_norm] | rw [blkT_exit] | rw [blkT_exit' (by decide)] | rw [s_blk] | rw [s_reg (by simp [evOps, evOp_n, evOp_r, evOp_d, evOp_dr, kpo_refl, kpo_app, cnd_some, cnd_pair, cnd_cnd_t, cnd_cnd_f, cnd_same, cnd_dvb, cnd_and, cnd_or, ↓evx_pick, gd_bool, gd_boolf, gd_tup, cnd_t, cnd_f, evTo, isCall, evx, put, lk, Od.v, keepEnv, enterEnv, ldx_ref, rdc, binx, binI, binS, unx, eqk, DV.isU, DV.cells, hget, hget0, hset, hset0, stx_ref, splice, DV.one, fillp, mat, eqcs, eqs, e1, e2, e3, e4, e5, e6, eltL, eltOf, roOf, Wc, Nr.int, vw, ldx]; exact ⟨rfl, rfl⟩)] | rw [t_cnd (by simp [lk, keepEnv, Od.v, e1, e2, e3, e4, e5, e6, eltL, eltOf, roOf, Wc, Nr.int, vw, ldx]; exact rfl)] | rw [t_blk]))

  simp [ends_ret, ends_norm, resL, evOps, evOp_n, evOp_r, evOp_d, evOp_dr, kpo_refl, kpo_app, cnd_some, cnd_pair, cnd_cnd_t, cnd_cnd_f, cnd_same, cnd_dvb, cnd_and, cnd_or, ↓evx_pick, gd_bool, gd_boolf, gd_tup, cnd_t, cnd_f, evTo, isCall, evx, put, lk, Od.v, keepEnv, enterEnv, ldx_ref, rdc, binx, binI, binS, unx, eqk, DV.isU, DV.cells, hget, hget0, hset, hset0, stx_ref, splice, DV.one, fillp, mat, eqcs, eqs, fin, fz0, fz1, fzT, fzL, nlt, fx]
end Go.Proofs.Ytmlfhjpajbmajaa
