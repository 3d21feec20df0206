/- Ideal runs: rows that are sorted in place; insertion sort. -/
import Derived.Sort.Defs
import Derived.Test.YtmlfhjpajbmajaaPlainF
namespace Go.Proofs.Ytmlfhjpajbmajaa
set_option linter.unusedVariables false
set_option linter.unusedSimpArgs false
set_option maxRecDepth 10000
instance : Inhabited V := ⟨V0⟩
def lt (a b : V) : Bool := decide (ord a b < 0)
/-- The heap in which a row stands as it is now. -/
def hp (H : Heap) (r g : Nat) (d : Array V) : Heap := H.set r (.row 24 4 g (d.toList.map V.d))
abbrev rw_ (r g n : Nat) : DV := .row r g 0 n false
/-- An element, and an array with one changed: shut, so that nothing rewrites them. -/
def el (d : Array V) (i : Nat) : V := d[i]!
def upA (d : Array V) (i : Nat) (v : V) : Array V := d.setIfInBounds i v
theorem upA_size (d : Array V) (i : Nat) (v : V) : (upA d i v).size = d.size := by simp [upA]
theorem swp_upd (d : Array V) (i j : Nat) : Go.Sort.swp d i j = upA (upA d i (el d j)) j (el d i) := rfl
theorem toL_get (d : Array V) (i : Nat) (hi : i < d.size) : d.toList[i]? = some (el d i) := by
  rw [el, getElem!_pos d i hi, Array.getElem?_toList, Array.getElem?_eq_getElem hi]
theorem hp_vw {H : Heap} {r : Nat} (g : Nat) (d : Array V) (hr : r < H.length) : vw (hp H r g d) 4 (rw_ r g d.size) = some (d.toList.map V.d) := by
  simp [vw, hp, List.getElem?_set_self hr, List.take_of_length_le]
theorem hp_rd {H : Heap} {r : Nat} (g : Nat) (d : Array V) (hr : r < H.length) {i : Nat} (hi : i < d.size) : ldx (hp H r g d) true 4 (.elem (rw_ r g d.size) 4 i 0) = some (el d i).d := by
  rw [ldx, hp_vw g d hr]
  simp only [List.getElem?_map, toL_get d i hi, Option.map_some]
  simp [rdc, DV.cells]
theorem hp_wr {H : Heap} {r : Nat} (g : Nat) (d : Array V) (hr : r < H.length) {i : Nat} (hi : i < d.size) (v : V) : stx (hp H r g d) 4 (.elem (rw_ r g d.size) 4 i 0) v.d = some (hp H r g (upA d i v)) := by
  have h1 : (hp H r g d)[r]? = some (.row 24 4 g (d.toList.map V.d)) := by simp [hp, List.getElem?_set_self hr]
  have h2 : (d.toList.map V.d)[i]? = some (el d i).d := by rw [List.getElem?_map, toL_get d i hi]; rfl
  rw [stx, if_pos (by simp [DV.cells, DV.one])]
  simp only [h1]
  rw [if_pos (by simp [hi])]
  simp only [Nat.zero_add, h2]
  simp [eput, DV.cells, splice, hp, upA]
theorem swp_size (d : Array V) (i j : Nat) : (Go.Sort.swp d i j).size = d.size := by simp [Go.Sort.swp]
def lp43_0 : XC := .seq (.seq (.reg [⟨some 12, .mov (.t 8), none, false⟩, ⟨some 13, .mov (.t 2), none, false⟩, ⟨some 14, .bin .lss (.t 12) (.t 13), none, false⟩] [0, 1, 2, 3, 8, 14]) (.cond (.t 14) .skip (.exit 0))) (.seq (.block 1 (.seq (.reg [⟨some 17, .mov (.t 8), none, false⟩, ⟨some 9, .mov (.t 17), none, false⟩] [0, 1, 2, 3, 8, 9]) (.block 2 (.loop (.seq (.seq (.reg [⟨some 18, .mov (.t 9), none, false⟩, ⟨some 19, .mov (.t 1), none, false⟩, ⟨some 20, .bin .gtr (.t 18) (.t 19), none, false⟩, ⟨some 21, .mov (.t 20), none, false⟩, ⟨some 22, .mov (.t 3), some (21, true), false⟩, ⟨some 23, .mov (.t 0), some (21, true), false⟩, ⟨some 24, .mov (.t 9), some (21, true), false⟩, ⟨some 25, .iaddr 4 (.t 23) (.t 24), some (21, true), false⟩, ⟨some 26, .load true 4 (.t 25), some (21, true), false⟩, ⟨some 27, .mov (.t 0), some (21, true), false⟩, ⟨some 28, .mov (.t 9), some (21, true), false⟩, ⟨some 29, .bin .sub (.t 28) (.c (.int .i64 1)), some (21, true), false⟩, ⟨some 30, .iaddr 4 (.t 27) (.t 29), some (21, true), false⟩, ⟨some 31, .load true 4 (.t 30), some (21, true), false⟩, ⟨some 32, .call (.t 22) [.t 26, .t 31], some (21, true), false⟩, ⟨some 33, .bin .lss (.t 32) (.c (.int .i64 0)), some (21, true), false⟩, ⟨some 34, .pick (.t 21) (.t 33) (.c (.bool false)), none, false⟩] [0, 1, 2, 3, 8, 9, 34]) (.cond (.t 34) .skip (.exit 2))) (.seq (.block 3 (.reg [⟨some 37, .mov (.t 0), none, false⟩, ⟨some 38, .mov (.t 9), none, false⟩, ⟨some 39, .mov (.t 0), none, false⟩, ⟨some 40, .mov (.t 9), none, false⟩, ⟨some 41, .bin .sub (.t 40) (.c (.int .i64 1)), none, false⟩, ⟨some 42, .mov (.t 0), none, false⟩, ⟨some 43, .mov (.t 9), none, false⟩, ⟨some 44, .bin .sub (.t 43) (.c (.int .i64 1)), none, false⟩, ⟨some 45, .iaddr 4 (.t 42) (.t 44), none, false⟩, ⟨some 46, .load true 4 (.t 45), none, false⟩, ⟨some 47, .mov (.t 0), none, false⟩, ⟨some 48, .mov (.t 9), none, false⟩, ⟨some 49, .iaddr 4 (.t 47) (.t 48), none, false⟩, ⟨some 50, .load true 4 (.t 49), none, false⟩, ⟨some 51, .iaddr 4 (.t 37) (.t 38), none, false⟩, ⟨none, .store 4 (.t 51) (.t 46), none, false⟩, ⟨some 52, .iaddr 4 (.t 39) (.t 41), none, false⟩, ⟨none, .store 4 (.t 52) (.t 50), none, false⟩] [0, 1, 2, 3, 8, 9])) (.reg [⟨some 35, .mov (.t 9), none, false⟩, ⟨some 36, .bin .sub (.t 35) (.c (.int .i64 1)), none, false⟩, ⟨some 9, .mov (.t 36), none, false⟩] [0, 1, 2, 3, 8, 9]))))))) (.reg [⟨some 15, .mov (.t 8), none, false⟩, ⟨some 16, .bin .add (.t 15) (.c (.int .i64 1)), none, false⟩, ⟨some 8, .mov (.t 16), none, false⟩] [0, 1, 2, 3, 8]))
def lp43_1 : XC := .seq (.seq (.reg [⟨some 18, .mov (.t 9), none, false⟩, ⟨some 19, .mov (.t 1), none, false⟩, ⟨some 20, .bin .gtr (.t 18) (.t 19), none, false⟩, ⟨some 21, .mov (.t 20), none, false⟩, ⟨some 22, .mov (.t 3), some (21, true), false⟩, ⟨some 23, .mov (.t 0), some (21, true), false⟩, ⟨some 24, .mov (.t 9), some (21, true), false⟩, ⟨some 25, .iaddr 4 (.t 23) (.t 24), some (21, true), false⟩, ⟨some 26, .load true 4 (.t 25), some (21, true), false⟩, ⟨some 27, .mov (.t 0), some (21, true), false⟩, ⟨some 28, .mov (.t 9), some (21, true), false⟩, ⟨some 29, .bin .sub (.t 28) (.c (.int .i64 1)), some (21, true), false⟩, ⟨some 30, .iaddr 4 (.t 27) (.t 29), some (21, true), false⟩, ⟨some 31, .load true 4 (.t 30), some (21, true), false⟩, ⟨some 32, .call (.t 22) [.t 26, .t 31], some (21, true), false⟩, ⟨some 33, .bin .lss (.t 32) (.c (.int .i64 0)), some (21, true), false⟩, ⟨some 34, .pick (.t 21) (.t 33) (.c (.bool false)), none, false⟩] [0, 1, 2, 3, 8, 9, 34]) (.cond (.t 34) .skip (.exit 2))) (.seq (.block 3 (.reg [⟨some 37, .mov (.t 0), none, false⟩, ⟨some 38, .mov (.t 9), none, false⟩, ⟨some 39, .mov (.t 0), none, false⟩, ⟨some 40, .mov (.t 9), none, false⟩, ⟨some 41, .bin .sub (.t 40) (.c (.int .i64 1)), none, false⟩, ⟨some 42, .mov (.t 0), none, false⟩, ⟨some 43, .mov (.t 9), none, false⟩, ⟨some 44, .bin .sub (.t 43) (.c (.int .i64 1)), none, false⟩, ⟨some 45, .iaddr 4 (.t 42) (.t 44), none, false⟩, ⟨some 46, .load true 4 (.t 45), none, false⟩, ⟨some 47, .mov (.t 0), none, false⟩, ⟨some 48, .mov (.t 9), none, false⟩, ⟨some 49, .iaddr 4 (.t 47) (.t 48), none, false⟩, ⟨some 50, .load true 4 (.t 49), none, false⟩, ⟨some 51, .iaddr 4 (.t 37) (.t 38), none, false⟩, ⟨none, .store 4 (.t 51) (.t 46), none, false⟩, ⟨some 52, .iaddr 4 (.t 39) (.t 41), none, false⟩, ⟨none, .store 4 (.t 52) (.t 50), none, false⟩] [0, 1, 2, 3, 8, 9])) (.reg [⟨some 35, .mov (.t 9), none, false⟩, ⟨some 36, .bin .sub (.t 35) (.c (.int .i64 1)), none, false⟩, ⟨some 9, .mov (.t 36), none, false⟩] [0, 1, 2, 3, 8, 9]))
theorem insInner_size (a : Nat) : ∀ (j : Nat) (d : Array V), (Go.Sort.insInner lt a j d).size = d.size
  | 0, d => rfl
  | j + 1, d => by
    rw [Go.Sort.insInner]
    split
    · rw [insInner_size a j, swp_size]
    · rfl
theorem loop43_1 {H : Heap} {r g n a b i : Nat} (hr : r < H.length) (hn : n ≤ 1000000) (hb : b ≤ n) (hi : i < n) :
    ∀ (j : Nat) (d : Array V), d.size = n → j < n → ∃ x y, C X (.loop lp43_1) [(0, rw_ r g n), (1, .int .i64 a), (2, .int .i64 b), (3, .func 32 [] []), (8, .int .i64 i), (9, .int .i64 j)] (hp H r g d) =
      some (.exit 2, [(0, rw_ r g n), (1, .int .i64 a), (2, .int .i64 b), (3, .func 32 [] []), (8, .int .i64 i), (9, x), (34, y)], hp H r g (Go.Sort.insInner lt a j d)) := by
  intro j
  induction j with
  | zero =>
    intro d hd hj
    have w0 : ¬ ((a : Int) < 0) := by omega
    rw [t_loop]
    unfold lp43_1
    (repeat (first | rw [s_assoc] | rw [s_seq_reg (by simp [evOps, evOp_n, evOp_r, evOp_d, evOp_dr, kpo_refl, kpo_app, cnd_some, cnd_pair, cnd_cnd_t, cnd_cnd_f, cnd_same, cnd_dvb, cnd_and, cnd_or, ↓evx_pick, gd_bool, gd_boolf, gd_tup, cnd_t, cnd_f, evTo, isCall, evx, put, lk, Od.v, keepEnv, enterEnv, ldx_ref, rdc, binx, binI, binS, unx, eqk, DV.isU, DV.cells, hget, hget0, hset, hset0, stx_ref, splice, DV.one, fillp, mat, eqcs, eqs, w0]; exact ⟨rfl, rfl⟩)] | rw [s_cnd (by simp [lk, keepEnv, Od.v, w0]; exact rfl)] | rw [cnd_t] | rw [cnd_f] | rw [s_skip] | rw [s_ret] | rw [s_exit] | rw [C_ret] | rw [C_exit] | rw [C_skip] | rw [blk_ret] | rw [blk_norm] | rw [blk_exit] | rw [blk_exit' (by decide)] | rw [blkT_ret] | rw [blkT_norm] | rw [blkT_exit] | rw [blkT_exit' (by decide)] | rw [s_blk] | rw [s_reg (by simp [evOps, evOp_n, evOp_r, evOp_d, evOp_dr, kpo_refl, kpo_app, cnd_some, cnd_pair, cnd_cnd_t, cnd_cnd_f, cnd_same, cnd_dvb, cnd_and, cnd_or, ↓evx_pick, gd_bool, gd_boolf, gd_tup, cnd_t, cnd_f, evTo, isCall, evx, put, lk, Od.v, keepEnv, enterEnv, ldx_ref, rdc, binx, binI, binS, unx, eqk, DV.isU, DV.cells, hget, hget0, hset, hset0, stx_ref, splice, DV.one, fillp, mat, eqcs, eqs, w0]; exact ⟨rfl, rfl⟩)] | rw [t_cnd (by simp [lk, keepEnv, Od.v, w0]; exact rfl)] | rw [t_blk]))
    rw [lp_exit]
    exact ⟨_, _, by simp [keepEnv, lk, Go.Sort.insInner]; exact ⟨rfl, rfl⟩⟩
  | succ j ih =>
    intro d hd hj
    obtain ⟨J, hJ⟩ : ∃ J, J = j + 1 := ⟨_, rfl⟩
    rw [← hJ]
    have hJ' : Go.Sort.insInner lt a J d = if J > a && lt (el d J) (el d j) then Go.Sort.insInner lt a j (Go.Sort.swp d J j) else d := by
      subst hJ; rw [Go.Sort.insInner]; rfl
    rw [hJ']
    by_cases hja : a < J
    · have w0 : (a : Int) < (J : Int) := by omega
      have w1 : IntKind.i64.wrap ((J : Int) - 1) = j := by rw [wrap64 _ (by omega) (by omega)]; omega
      have w2 : j < d.size := by omega
      have w3 : J < d.size := by omega
      have w5 : j < n := by omega
      have w6 : J < n := by omega
      have r0 := hp_vw (H := H) g d hr
      have r1 := hp_rd (H := H) g d hr w2
      have r2 := hp_rd (H := H) g d hr w3
      rw [hd] at r0 r1 r2
      cases hlt : lt (el d J) (el d j)
      · have w4 : ¬ (ord (el d J) (el d j) < 0) := by simpa [lt] using hlt
        rw [t_loop]
        unfold lp43_1
        (repeat (first | rw [s_assoc] | rw [s_seq_reg (by simp [evOps, evOp_n, evOp_r, evOp_d, evOp_dr, kpo_refl, kpo_app, cnd_some, cnd_pair, cnd_cnd_t, cnd_cnd_f, cnd_same, cnd_dvb, cnd_and, cnd_or, ↓evx_pick, gd_bool, gd_boolf, gd_tup, cnd_t, cnd_f, evTo, isCall, evx, put, lk, Od.v, keepEnv, enterEnv, ldx_ref, rdc, binx, binI, binS, unx, eqk, DV.isU, DV.cells, hget, hget0, hset, hset0, stx_ref, splice, DV.one, fillp, mat, eqcs, eqs, hja, w0, w1, w2, w3, w5, w6, hd, r0, r1, r2, run32, w4]; exact ⟨rfl, rfl⟩)] | rw [s_cnd (by simp [lk, keepEnv, Od.v, hja, w0, w1, w2, w3, w5, w6, hd, r0, r1, r2, run32, w4]; exact rfl)] | rw [cnd_t] | rw [cnd_f] | rw [s_skip] | rw [s_ret] | rw [s_exit] | rw [C_ret] | rw [C_exit] | rw [C_skip] | rw [blk_ret] | rw [blk_norm] | rw [blk_exit] | rw [blk_exit' (by decide)] | rw [blkT_ret] | rw [blkT_norm] | rw [blkT_exit] | rw [blkT_exit' (by decide)] | rw [s_blk] | rw [s_reg (by simp [evOps, evOp_n, evOp_r, evOp_d, evOp_dr, kpo_refl, kpo_app, cnd_some, cnd_pair, cnd_cnd_t, cnd_cnd_f, cnd_same, cnd_dvb, cnd_and, cnd_or, ↓evx_pick, gd_bool, gd_boolf, gd_tup, cnd_t, cnd_f, evTo, isCall, evx, put, lk, Od.v, keepEnv, enterEnv, ldx_ref, rdc, binx, binI, binS, unx, eqk, DV.isU, DV.cells, hget, hget0, hset, hset0, stx_ref, splice, DV.one, fillp, mat, eqcs, eqs, hja, w0, w1, w2, w3, w5, w6, hd, r0, r1, r2, run32, w4]; exact ⟨rfl, rfl⟩)] | rw [t_cnd (by simp [lk, keepEnv, Od.v, hja, w0, w1, w2, w3, w5, w6, hd, r0, r1, r2, run32, w4]; exact rfl)] | rw [t_blk]))
        rw [lp_exit]
        exact ⟨_, _, by simp [keepEnv, lk]; exact ⟨rfl, rfl⟩⟩
      · have w4 : ord (el d J) (el d j) < 0 := by simpa [lt] using hlt
        have q1 := hp_wr (H := H) g d hr w3 (el d j)
        have q2 := hp_wr (H := H) g (upA d J (el d j)) hr (i := j) (by simpa [upA] using w2) (el d J)
        rw [hd] at q1
        have hs : (upA d J (el d j)).size = n := by simp [hd, upA]
        rw [hs] at q2
        have r3 := hp_vw (H := H) g (upA d J (el d j)) hr
        rw [hs] at r3
        have hn' : C X lp43_1 [(0, rw_ r g n), (1, .int .i64 a), (2, .int .i64 b), (3, .func 32 [] []), (8, .int .i64 i), (9, .int .i64 J)] (hp H r g d) = some (.norm, [(0, rw_ r g n), (1, .int .i64 a), (2, .int .i64 b), (3, .func 32 [] []), (8, .int .i64 i), (9, .int .i64 j)], hp H r g (Go.Sort.swp d J j)) := by
          unfold lp43_1
          rw [swp_upd]
          (repeat (first | rw [s_assoc] | rw [s_seq_reg (by simp [evOps, evOp_n, evOp_r, evOp_d, evOp_dr, kpo_refl, kpo_app, cnd_some, cnd_pair, cnd_cnd_t, cnd_cnd_f, cnd_same, cnd_dvb, cnd_and, cnd_or, ↓evx_pick, gd_bool, gd_boolf, gd_tup, cnd_t, cnd_f, evTo, isCall, evx, put, lk, Od.v, keepEnv, enterEnv, ldx_ref, rdc, binx, binI, binS, unx, eqk, DV.isU, DV.cells, hget, hget0, hset, hset0, stx_ref, splice, DV.one, fillp, mat, eqcs, eqs, hja, w0, w1, w2, w3, w5, w6, hd, hs, r0, r3, r1, r2, q1, q2, run32, w4]; exact ⟨rfl, rfl⟩)] | rw [s_cnd (by simp [lk, keepEnv, Od.v, hja, w0, w1, w2, w3, w5, w6, hd, hs, r0, r3, r1, r2, q1, q2, run32, w4]; exact rfl)] | rw [cnd_t] | rw [cnd_f] | rw [s_skip] | rw [s_ret] | rw [s_exit] | rw [C_ret] | rw [C_exit] | rw [C_skip] | rw [blk_ret] | rw [blk_norm] | rw [blk_exit] | rw [blk_exit' (by decide)] | rw [blkT_ret] | rw [blkT_norm] | rw [blkT_exit] | rw [blkT_exit' (by decide)] | rw [s_blk] | rw [s_reg (by simp [evOps, evOp_n, evOp_r, evOp_d, evOp_dr, kpo_refl, kpo_app, cnd_some, cnd_pair, cnd_cnd_t, cnd_cnd_f, cnd_same, cnd_dvb, cnd_and, cnd_or, ↓evx_pick, gd_bool, gd_boolf, gd_tup, cnd_t, cnd_f, evTo, isCall, evx, put, lk, Od.v, keepEnv, enterEnv, ldx_ref, rdc, binx, binI, binS, unx, eqk, DV.isU, DV.cells, hget, hget0, hset, hset0, stx_ref, splice, DV.one, fillp, mat, eqcs, eqs, hja, w0, w1, w2, w3, w5, w6, hd, hs, r0, r3, r1, r2, q1, q2, run32, w4]; exact ⟨rfl, rfl⟩)] | rw [t_cnd (by simp [lk, keepEnv, Od.v, hja, w0, w1, w2, w3, w5, w6, hd, hs, r0, r3, r1, r2, q1, q2, run32, w4]; exact rfl)] | rw [t_blk]))
          simp [keepEnv, lk]
        rw [t_loop, hn', lp_norm, if_pos (by simp [hja])]
        exact ih _ (by rw [swp_size, hd]) (by omega)
    · have w0 : ¬ ((a : Int) < (J : Int)) := by omega
      rw [t_loop]
      unfold lp43_1
      (repeat (first | rw [s_assoc] | rw [s_seq_reg (by simp [evOps, evOp_n, evOp_r, evOp_d, evOp_dr, kpo_refl, kpo_app, cnd_some, cnd_pair, cnd_cnd_t, cnd_cnd_f, cnd_same, cnd_dvb, cnd_and, cnd_or, ↓evx_pick, gd_bool, gd_boolf, gd_tup, cnd_t, cnd_f, evTo, isCall, evx, put, lk, Od.v, keepEnv, enterEnv, ldx_ref, rdc, binx, binI, binS, unx, eqk, DV.isU, DV.cells, hget, hget0, hset, hset0, stx_ref, splice, DV.one, fillp, mat, eqcs, eqs, hja, w0]; exact ⟨rfl, rfl⟩)] | rw [s_cnd (by simp [lk, keepEnv, Od.v, hja, w0]; exact rfl)] | rw [cnd_t] | rw [cnd_f] | rw [s_skip] | rw [s_ret] | rw [s_exit] | rw [C_ret] | rw [C_exit] | rw [C_skip] | rw [blk_ret] | rw [blk_norm] | rw [blk_exit] | rw [blk_exit' (by decide)] | rw [blkT_ret] | rw [blkT_norm] | rw [blkT_exit] | rw [blkT_exit' (by decide)] | rw [s_blk] | rw [s_reg (by simp [evOps, evOp_n, evOp_r, evOp_d, evOp_dr, kpo_refl, kpo_app, cnd_some, cnd_pair, cnd_cnd_t, cnd_cnd_f, cnd_same, cnd_dvb, cnd_and, cnd_or, ↓evx_pick, gd_bool, gd_boolf, gd_tup, cnd_t, cnd_f, evTo, isCall, evx, put, lk, Od.v, keepEnv, enterEnv, ldx_ref, rdc, binx, binI, binS, unx, eqk, DV.isU, DV.cells, hget, hget0, hset, hset0, stx_ref, splice, DV.one, fillp, mat, eqcs, eqs, hja, w0]; exact ⟨rfl, rfl⟩)] | rw [t_cnd (by simp [lk, keepEnv, Od.v, hja, w0]; exact rfl)] | rw [t_blk]))
      rw [lp_exit]
      exact ⟨_, _, by simp [keepEnv, lk, hja]; exact ⟨rfl, rfl⟩⟩
theorem hp_len (H : Heap) (r g : Nat) (d : Array V) : (hp H r g d).length = H.length := by simp [hp]
theorem fin_hp (H : Heap) (r g : Nat) (d d' : Array V) : fin (hp H r g d) (hp H r g d') [] = (.tup [], hp H r g d') := by
  have h1 : (hp H r g d').take (hp H r g d).length = hp H r g d' := by
    rw [hp_len, ← hp_len H r g d']; exact List.take_length
  rw [fin, h1]
  · split
    · rename_i h2; simp only [fzT]; rw [h2]
    · rfl
  · intro d h; cases h
theorem insOuter_size (a b : Nat) (i : Nat) (d : Array V) : (Go.Sort.insOuter lt a b i d).size = d.size := by
  rw [Go.Sort.insOuter]
  split
  · rw [insOuter_size a b (i + 1), insInner_size]
  · rfl
termination_by b - i
theorem loop43_0 {H : Heap} {r g n a b : Nat} (hr : r < H.length) (hn : n ≤ 1000000) (hb : b ≤ n) :
    ∀ (k i : Nat) (d : Array V), b - i ≤ k → d.size = n → i ≤ n + 1 → ∃ e', C X (.loop lp43_0) [(0, rw_ r g n), (1, .int .i64 a), (2, .int .i64 b), (3, .func 32 [] []), (8, .int .i64 i)] (hp H r g d) =
      some (.exit 0, e', hp H r g (Go.Sort.insOuter lt a b i d)) := by
  intro k
  induction k with
  | zero =>
    intro i d hk hd hi
    have w0 : ¬ ((i : Int) < b) := by omega
    have w1 : ¬ i < b := by omega
    rw [t_loop]
    unfold lp43_0
    (repeat (first | rw [s_assoc] | rw [s_seq_reg (by simp [evOps, evOp_n, evOp_r, evOp_d, evOp_dr, kpo_refl, kpo_app, cnd_some, cnd_pair, cnd_cnd_t, cnd_cnd_f, cnd_same, cnd_dvb, cnd_and, cnd_or, ↓evx_pick, gd_bool, gd_boolf, gd_tup, cnd_t, cnd_f, evTo, isCall, evx, put, lk, Od.v, keepEnv, enterEnv, ldx_ref, rdc, binx, binI, binS, unx, eqk, DV.isU, DV.cells, hget, hget0, hset, hset0, stx_ref, splice, DV.one, fillp, mat, eqcs, eqs, w0, w1]; exact ⟨rfl, rfl⟩)] | rw [s_cnd (by simp [lk, keepEnv, Od.v, w0, w1]; exact rfl)] | rw [cnd_t] | rw [cnd_f] | rw [s_skip] | rw [s_ret] | rw [s_exit] | rw [C_ret] | rw [C_exit] | rw [C_skip] | rw [blk_ret] | rw [blk_norm] | rw [blk_exit] | rw [blk_exit' (by decide)] | rw [blkT_ret] | rw [blkT_norm] | rw [blkT_exit] | rw [blkT_exit' (by decide)] | rw [s_blk] | rw [s_reg (by simp [evOps, evOp_n, evOp_r, evOp_d, evOp_dr, kpo_refl, kpo_app, cnd_some, cnd_pair, cnd_cnd_t, cnd_cnd_f, cnd_same, cnd_dvb, cnd_and, cnd_or, ↓evx_pick, gd_bool, gd_boolf, gd_tup, cnd_t, cnd_f, evTo, isCall, evx, put, lk, Od.v, keepEnv, enterEnv, ldx_ref, rdc, binx, binI, binS, unx, eqk, DV.isU, DV.cells, hget, hget0, hset, hset0, stx_ref, splice, DV.one, fillp, mat, eqcs, eqs, w0, w1]; exact ⟨rfl, rfl⟩)] | rw [t_cnd (by simp [lk, keepEnv, Od.v, w0, w1]; exact rfl)] | rw [t_blk]))
    rw [lp_exit, Go.Sort.insOuter, if_neg w1]
    exact ⟨_, rfl⟩
  | succ k ih =>
    intro i d hk hd hi
    by_cases w1 : i < b
    · have w0 : (i : Int) < b := by omega
      have w2 : IntKind.i64.wrap ((i : Int) + 1) = ((i + 1 : Nat) : Int) := by rw [wrap64 _ (by omega) (by omega)]; rfl
      obtain ⟨x, y, hin⟩ := loop43_1 (H := H) (r := r) (g := g) (n := n) (a := a) (b := b) (i := i) hr hn hb (by omega) i d hd (by omega)
      have hs : C X lp43_0 [(0, rw_ r g n), (1, .int .i64 a), (2, .int .i64 b), (3, .func 32 [] []), (8, .int .i64 i)] (hp H r g d) = some (.norm, [(0, rw_ r g n), (1, .int .i64 a), (2, .int .i64 b), (3, .func 32 [] []), (8, .int .i64 (i + 1 : Nat))], hp H r g (Go.Sort.insInner lt a i d)) := by
        unfold lp43_0
        unfold lp43_1 at hin
        (repeat (first | rw [s_assoc] | rw [s_seq_reg (by simp [evOps, evOp_n, evOp_r, evOp_d, evOp_dr, kpo_refl, kpo_app, cnd_some, cnd_pair, cnd_cnd_t, cnd_cnd_f, cnd_same, cnd_dvb, cnd_and, cnd_or, ↓evx_pick, gd_bool, gd_boolf, gd_tup, cnd_t, cnd_f, evTo, isCall, evx, put, lk, Od.v, keepEnv, enterEnv, ldx_ref, rdc, binx, binI, binS, unx, eqk, DV.isU, DV.cells, hget, hget0, hset, hset0, stx_ref, splice, DV.one, fillp, mat, eqcs, eqs, w0, w1, w2]; exact ⟨rfl, rfl⟩)] | rw [s_cnd (by simp [lk, keepEnv, Od.v, w0, w1, w2]; exact rfl)] | rw [cnd_t] | rw [cnd_f] | rw [s_skip] | rw [s_ret] | rw [s_exit] | rw [C_ret] | rw [C_exit] | rw [C_skip] | rw [blk_ret] | rw [blk_norm] | rw [blk_exit] | rw [blk_exit' (by decide)] | rw [blkT_ret] | rw [blkT_norm] | rw [blkT_exit] | rw [blkT_exit' (by decide)] | rw [s_blk] | rw [s_reg (by simp [evOps, evOp_n, evOp_r, evOp_d, evOp_dr, kpo_refl, kpo_app, cnd_some, cnd_pair, cnd_cnd_t, cnd_cnd_f, cnd_same, cnd_dvb, cnd_and, cnd_or, ↓evx_pick, gd_bool, gd_boolf, gd_tup, cnd_t, cnd_f, evTo, isCall, evx, put, lk, Od.v, keepEnv, enterEnv, ldx_ref, rdc, binx, binI, binS, unx, eqk, DV.isU, DV.cells, hget, hget0, hset, hset0, stx_ref, splice, DV.one, fillp, mat, eqcs, eqs, w0, w1, w2]; exact ⟨rfl, rfl⟩)] | rw [t_cnd (by simp [lk, keepEnv, Od.v, w0, w1, w2]; exact rfl)] | rw [t_blk]))
        (try simp only [keepEnv, List.map_cons, List.map_nil, lk, reduceIte, Nat.reduceEqDiff, Nat.zero_ne_one, Nat.one_ne_zero])
        rw [hin]
        (repeat (first | rw [s_assoc] | rw [s_seq_reg (by simp [evOps, evOp_n, evOp_r, evOp_d, evOp_dr, kpo_refl, kpo_app, cnd_some, cnd_pair, cnd_cnd_t, cnd_cnd_f, cnd_same, cnd_dvb, cnd_and, cnd_or, ↓evx_pick, gd_bool, gd_boolf, gd_tup, cnd_t, cnd_f, evTo, isCall, evx, put, lk, Od.v, keepEnv, enterEnv, ldx_ref, rdc, binx, binI, binS, unx, eqk, DV.isU, DV.cells, hget, hget0, hset, hset0, stx_ref, splice, DV.one, fillp, mat, eqcs, eqs, w0, w1, w2]; exact ⟨rfl, rfl⟩)] | rw [s_cnd (by simp [lk, keepEnv, Od.v, w0, w1, w2]; exact rfl)] | rw [cnd_t] | rw [cnd_f] | rw [s_skip] | rw [s_ret] | rw [s_exit] | rw [C_ret] | rw [C_exit] | rw [C_skip] | rw [blk_ret] | rw [blk_norm] | rw [blk_exit] | rw [blk_exit' (by decide)] | rw [blkT_ret] | rw [blkT_norm] | rw [blkT_exit] | rw [blkT_exit' (by decide)] | rw [s_blk] | rw [s_reg (by simp [evOps, evOp_n, evOp_r, evOp_d, evOp_dr, kpo_refl, kpo_app, cnd_some, cnd_pair, cnd_cnd_t, cnd_cnd_f, cnd_same, cnd_dvb, cnd_and, cnd_or, ↓evx_pick, gd_bool, gd_boolf, gd_tup, cnd_t, cnd_f, evTo, isCall, evx, put, lk, Od.v, keepEnv, enterEnv, ldx_ref, rdc, binx, binI, binS, unx, eqk, DV.isU, DV.cells, hget, hget0, hset, hset0, stx_ref, splice, DV.one, fillp, mat, eqcs, eqs, w0, w1, w2]; exact ⟨rfl, rfl⟩)] | rw [t_cnd (by simp [lk, keepEnv, Od.v, w0, w1, w2]; exact rfl)] | rw [t_blk]))
        simp [keepEnv, lk]
      rw [t_loop, hs, lp_norm, Go.Sort.insOuter, if_pos w1]
      exact ih (i + 1) _ (by omega) (by rw [insInner_size, hd]) (by omega)
    · exact ih i d (by omega) hd hi
theorem run43 {H : Heap} {r g n a b : Nat} (hr : r < H.length) (hn : n ≤ 1000000) (hb : b ≤ n) (ha : a ≤ n) (d : Array V) (hd : d.size = n) :
    E X 43 [rw_ r g n, .int .i64 a, .int .i64 b, .func 32 [] []] (hp H r g d) = some (.tup [], hp H r g (Go.Sort.insertionSort lt d a b)) := by
  rw [Go.Sort.insertionSort]
  obtain ⟨A, hA⟩ : ∃ A, A = a + 1 := ⟨_, rfl⟩
  rw [← hA]
  have w2 : IntKind.i64.wrap ((a : Int) + 1) = (A : Int) := by rw [wrap64 _ (by omega) (by omega)]; omega
  obtain ⟨e', hl⟩ := loop43_0 (H := H) (r := r) (g := g) (n := n) (a := a) (b := b) hr hn hb b A d (by omega) hd (by omega)
  unfold lp43_0 at hl
  rw [E_go (X := X) _ b43 _ rfl rfl]; unfold b43
  (repeat (first | rw [s_assoc] | rw [s_seq_reg (by simp [evOps, evOp_n, evOp_r, evOp_d, evOp_dr, kpo_refl, kpo_app, cnd_some, cnd_pair, cnd_cnd_t, cnd_cnd_f, cnd_same, cnd_dvb, cnd_and, cnd_or, ↓evx_pick, gd_bool, gd_boolf, gd_tup, cnd_t, cnd_f, evTo, isCall, evx, put, lk, Od.v, keepEnv, enterEnv, ldx_ref, rdc, binx, binI, binS, unx, eqk, DV.isU, DV.cells, hget, hget0, hset, hset0, stx_ref, splice, DV.one, fillp, mat, eqcs, eqs, w2]; exact ⟨rfl, rfl⟩)] | rw [s_cnd (by simp [lk, keepEnv, Od.v, w2]; exact rfl)] | rw [cnd_t] | rw [cnd_f] | rw [s_skip] | rw [s_ret] | rw [s_exit] | rw [C_ret] | rw [C_exit] | rw [C_skip] | rw [blk_ret] | rw [blk_norm] | rw [blk_exit] | rw [blk_exit' (by decide)] | rw [blkT_ret] | rw [blkT_norm] | rw [blkT_exit] | rw [blkT_exit' (by decide)] | rw [s_blk] | rw [s_reg (by simp [evOps, evOp_n, evOp_r, evOp_d, evOp_dr, kpo_refl, kpo_app, cnd_some, cnd_pair, cnd_cnd_t, cnd_cnd_f, cnd_same, cnd_dvb, cnd_and, cnd_or, ↓evx_pick, gd_bool, gd_boolf, gd_tup, cnd_t, cnd_f, evTo, isCall, evx, put, lk, Od.v, keepEnv, enterEnv, ldx_ref, rdc, binx, binI, binS, unx, eqk, DV.isU, DV.cells, hget, hget0, hset, hset0, stx_ref, splice, DV.one, fillp, mat, eqcs, eqs, w2]; exact ⟨rfl, rfl⟩)] | rw [t_cnd (by simp [lk, keepEnv, Od.v, w2]; exact rfl)] | rw [t_blk]))
  (try simp only [keepEnv, List.map_cons, List.map_nil, lk, reduceIte, Nat.reduceEqDiff, Nat.zero_ne_one, Nat.one_ne_zero])
  rw [hl]
  (repeat (first | rw [s_assoc] | rw [s_seq_reg (by simp [evOps, evOp_n, evOp_r, evOp_d, evOp_dr, kpo_refl, kpo_app, cnd_some, cnd_pair, cnd_cnd_t, cnd_cnd_f, cnd_same, cnd_dvb, cnd_and, cnd_or, ↓evx_pick, gd_bool, gd_boolf, gd_tup, cnd_t, cnd_f, evTo, isCall, evx, put, lk, Od.v, keepEnv, enterEnv, ldx_ref, rdc, binx, binI, binS, unx, eqk, DV.isU, DV.cells, hget, hget0, hset, hset0, stx_ref, splice, DV.one, fillp, mat, eqcs, eqs, w2]; exact ⟨rfl, rfl⟩)] | rw [s_cnd (by simp [lk, keepEnv, Od.v, w2]; exact rfl)] | rw [cnd_t] | rw [cnd_f] | rw [s_skip] | rw [s_ret] | rw [s_exit] | rw [C_ret] | rw [C_exit] | rw [C_skip] | rw [blk_ret] | rw [blk_norm] | rw [blk_exit] | rw [blk_exit' (by decide)] | rw [blkT_ret] | rw [blkT_norm] | rw [blkT_exit] | rw [blkT_exit' (by decide)] | rw [s_blk] | rw [s_reg (by simp [evOps, evOp_n, evOp_r, evOp_d, evOp_dr, kpo_refl, kpo_app, cnd_some, cnd_pair, cnd_cnd_t, cnd_cnd_f, cnd_same, cnd_dvb, cnd_and, cnd_or, ↓evx_pick, gd_bool, gd_boolf, gd_tup, cnd_t, cnd_f, evTo, isCall, evx, put, lk, Od.v, keepEnv, enterEnv, ldx_ref, rdc, binx, binI, binS, unx, eqk, DV.isU, DV.cells, hget, hget0, hset, hset0, stx_ref, splice, DV.one, fillp, mat, eqcs, eqs, w2]; exact ⟨rfl, rfl⟩)] | rw [t_cnd (by simp [lk, keepEnv, Od.v, w2]; exact rfl)] | rw [t_blk]))
  simp [ends_norm, resL, fin_hp]
end Go.Proofs.Ytmlfhjpajbmajaa
